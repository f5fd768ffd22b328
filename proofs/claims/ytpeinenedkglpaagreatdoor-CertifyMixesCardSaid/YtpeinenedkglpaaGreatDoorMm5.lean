import Derived.Test.YtpeinenedkglpaaGreatDoorMm4
import Derived.RangeFuncNested
import Derived.RangeFuncBound
import Derived.Shelf.RegionOpen
import Derived.OwnWalkIn
import Derived.LoopNIn
import Derived.LoopIn
import Derived.Deep.LoopGhost
set_option linter.unusedVariables false
set_option linter.unusedSimpArgs false
set_option maxRecDepth 100000
set_option maxHeartbeats 16000000
namespace Go
theorem Zua:type_of% @Array.all_eq_true':=@Array.all_eq_true'
theorem ZuF:type_of% @Array.replicate_succ:=@Array.replicate_succ
theorem ZuG:type_of% @Array.size_push:=@Array.size_push
theorem ZuH:type_of% @Array.size_setIfInBounds:=@Array.size_setIfInBounds
theorem ZuL:type_of% @RowKit.Below.setCell:=@RowKit.Below.setCell
theorem ZuW:type_of% @Bool.or_false:=@Bool.or_false
theorem ZuX:type_of% @Bool.or_self:=@Bool.or_self
theorem ZuY:type_of% @Bool.or_true:=@Bool.or_true
theorem Zvd:type_of% @List.all_cons:=@List.all_cons
theorem Zvj:type_of% @List.append_nil:=@List.append_nil
theorem Zvn:type_of% @List.contains_cons:=@List.contains_cons
theorem Zvq:type_of% @List.contains_nil:=@List.contains_nil
theorem Zvv:type_of% @List.eq_nil_iff_forall_not_mem:=@List.eq_nil_iff_forall_not_mem
theorem Zvy:type_of% @List.exists_mem_of_ne_nil:=@List.exists_mem_of_ne_nil
theorem Zvz:type_of% @List.ext_getElem?:=@List.ext_getElem?
theorem ZvM:type_of% @List.getElem?_eq_none:=@List.getElem?_eq_none
theorem ZvV:type_of% @List.getElem?_take_of_lt:=@List.getElem?_take_of_lt
theorem ZvZ:type_of% @List.length_append:=@List.length_append
theorem Zv1:type_of% @List.length_filter_le:=@List.length_filter_le
theorem Zv3:type_of% @List.length_nil:=@List.length_nil
theorem Zwh:type_of% @List.mem_append_right:=@List.mem_append_right
theorem Zwp:type_of% @List.mem_singleton:=@List.mem_singleton
theorem Zxd:type_of% @Option.getD_some:=@Option.getD_some
end Go
namespace Go.Proofs
open Go.RowKit
variable {M:Nat->Prop} {A B W W':World}
structure Lie (M:Nat->Prop)(W W':World):Prop where
 size:W.heap.size<=W'.heap.size
 same:∀k,k<W.heap.size->¬M k->W'.heap[k]?=W.heap[k]?
theorem Lie.refl(M:Nat->Prop)(W:World):Lie M W W:=⟨ZwO _,fun _ _ _=>rfl⟩
theorem Lie.trans{C:World} (h:Lie M A B)(k:Lie M B C):Lie M A C:=⟨ZwP h.size k.size,fun i hi hm=>(k.same i (ZwS hi h.size) hm).trans (h.same i hi hm)⟩
theorem Lie.mono{M':Nat->Prop} (h:Lie M A B)(hm:∀k,k<A.heap.size->M k->M' k):Lie M' A B:=⟨h.size,fun k hk hn=>h.same k hk fun e=>hn (hm k hk e)⟩
theorem Lie.of_below(M:Nat->Prop)(h:Below W.heap.size W W'):Lie M W W':=⟨h.size,fun k hk _=>h.block k hk⟩
theorem Lie.of_grown{row:Option Nat} (h:W.grownBy W' row)(hr:∀r,row=some r->M r):Lie M W W':=⟨h.size,fun k hk hn=>h.block k hk fun e=>hn (hr k e.symm)⟩
theorem Lie.putObj(W:World)(l:Nat)(o:Obj)(h:M l):Lie M W (W.putObj l o):=.of_grown (grownBy_putObj' W l o) fun r e=>by cases e;exact h
theorem Lie.obj(h:Lie M W W') {k:Nat} {o:Obj} (hk:¬M k)(hc:W.heap[k]?=some o):W'.heap[k]?=some o:=(h.same k (Zuo.1 hc).1 hk).trans hc
def Zfa{α:Type} (gv:α->Nat->Prop)(B:Nat)(J:List α->(Nat->Prop)->World->Prop):Prop:=∀s T W W' row,J s T W->W.grownBy W' row->(∀r,row=some r->B<=r/\¬T r/\∀x∈s,¬gv x r)->J s T W'
def ZkD{α:Type} (F:Fence)(n:Nat)(P:Program)(g:Nat)(lb:Array Value)(encs:α->Array Value)(gv:α->Nat->Prop)(M:Nat->Prop)(Ok:List α->α->World->Prop)(S Sp:List α->Prop)(N:Nat)(w:World):Prop:=∀(l:Nat)(J Jx:List α->(Nat->Prop)->World->Prop)(W:World),Below w.heap.size w W->w.heap.size<=l->l<W.heap.size->Zfa gv W.heap.size J->Zfa gv W.heap.size Jx->(∀pre T x W1,J pre T W1->(∀r,T r->W.heap.size<=r/\r<W1.heap.size)->(∀y∈pre++[x],∀r,gv y r->W.heap.size<=r)->pre.length<N->Ok pre x W1->YieldAt F (n-1) P l (encs x) W1 fun e W'=>∃T',(∀r,T' r->T r∨W1.heap.size<=r)/\(∀r,T' r->r<W'.heap.size)/\Lie (fun k=>M k∨T k∨k=l) W1 W'/\((e=.returned (.bool true)/\J (pre++[x]) T' W')∨(e=.returned (.bool false)/\Jx (pre++[x]) T' W')))->J [] (fun _=>False) W->CallsIn F n P g (#[.func (.yield l) #[] #[]]++lb) W fun e W'=>(∃v,e=.returned v)/\((∃xs T,S xs/\J xs T W')∨(∃pre T,Sp pre/\Jx pre T W'))
def Zqg{α:Type} (M T:Nat->Prop)(I:List α->(Nat->Prop)->World->Prop)(Ix:Code->List α->(Nat->Prop)->World->Prop)(xs:List α)(W:World):Exit->Act->World->Prop|.normal,_,W'=>∃T',(∀r,T' r->T r∨W.heap.size<=r)/\(∀r,T' r->r<W'.heap.size)/\Lie (fun k=>M k∨T k) W W'/\I xs T' W'|.ret,_,W'=>∃T',(∀r,T' r->T r∨W.heap.size<=r)/\(∀r,T' r->r<W'.heap.size)/\Lie (fun k=>M k∨T k) W W'/\Ix .ret xs T' W'|.exit id,_,W'=>∃T',(∀r,T' r->T r∨W.heap.size<=r)/\(∀r,T' r->r<W'.heap.size)/\Lie (fun k=>M k∨T k) W W'/\Ix (.exit id) xs T' W'|.goto t,_,W'=>∃T',(∀r,T' r->T r∨W.heap.size<=r)/\(∀r,T' r->r<W'.heap.size)/\Lie (fun k=>M k∨T k) W W'/\Ix (.goto t) xs T' W'|.panic _,_,_=>False|.outgrown,_,_=>False
variable {F:Fence} {n:Nat} {P:Program}
theorem Zqh{α:Type} {g:Operand} {ps:Array Tmp} {assign body:Code} {Q:Exit->Act->World->Prop} {a:Act} {w:World} (hro:F.round=none)(h1:1<=n) {gf:Nat} {lb:Array Value} (hg:a.eval g=.func (.func gf) #[] lb)(hFg:F.fn gf)(eg:∀args w,(callFunc gf args).run P w=.ok (.enter gf args) w) {encs:α->Array Value} {gv:α->Nat->Prop} {Ok:List α->α->World->Prop} {S Sp:List α->Prop} {N:Nat} (hseq:ZkD F (n-1) P gf lb encs gv M Ok S Sp N w)(hM:∀k,M k->k<w.heap.size)(hps:∀x,(encs x).size=ps.size)(I:List α->(Nat->Prop)->World->Prop)(Ix:Code->List α->(Nat->Prop)->World->Prop)(Ax:List α->(Nat->Prop)->α->Act->World->Prop)(hI:Zfa gv w.heap.size I)(hIx:∀c,Zfa gv w.heap.size (Ix c))(hAx:∀pre T x a (W:World)(l:Nat)(o o':Obj),w.heap.size<=l->¬T l->(∀y∈pre++[x],¬gv y l)->W.heap[l]?=some o->o.isCells=false->Ax pre T x a W->Ax pre T x a (W.putObj l o'))(h0:I [] (fun _=>False) w)(hassign:∀(l:Nat)(pre:List α)(T:Nat->Prop)(x:α)(W:World),I pre T W->(∀r,T r->w.heap.size<=r/\r<W.heap.size)->pre.length<N->Ok pre x W->(∀y∈pre++[x],∀r,gv y r->w.heap.size<=r)->assign.wpIn (F.inRound l) (n-1-1) P (Exit.then (fun a₁ W₁=>Lie (fun k=>M k∨T k) W W₁/\Ax pre T x a₁ W₁) (fun _ _ _=>False)) {tmps:=(ps.zip (encs x)).foldl (fun t (p,v)=>t.setIfInBounds p v) a.tmps,defers:=[]} W)(hbody:∀(l:Nat) (pre:List α) (T:Nat->Prop) (x:α) (a₁:Act) (W:World),Ax pre T x a₁ W->(∀r,T r->w.heap.size<=r/\r<W.heap.size)->pre.length<N->body.wpIn (F.inRound l) (n-1-1) P (Zqg M T I Ix (pre++[x]) W) a₁ W)(hdone:∀(D:Nat)(xs:List α)(T:Nat->Prop)(W:World),S xs->I xs T W->D=w.heap.size->W.heap[D]?=some (.deferred (some []))->Q .normal {a with defers:={target:=.collected D,args:=#[]}::a.defers} W)(hstop:∀(D:Nat)(c:Code)(pre:List α)(T:Nat->Prop)(W:World),Sp pre->Ix c pre T W->D=w.heap.size->W.heap[D]?=some (.deferred (some []))->c.wpIn F n P Q {a with defers:={target:=.collected D,args:=#[]}::a.defers} W):(Code.rangeFunc g ps assign body).wpIn F n P Q a w:=by
 refine wpIn_rangeFunc ?_;intro fn hfn;rw[hro];obtain⟨rec,hrec⟩:∃rec:LoopState->Option Code->Loop,rec=fun st pe=>{state:=st,pending:=pe,fn,tmps:=a.tmps,params:=ps,assign,body,defers:=w.heap.size}:=⟨_,rfl⟩;obtain⟨W1,hW1⟩:∃W1,(w.alloc (.deferred (some []))).alloc (.loop (rec .ready none))=W1:=⟨_,rfl⟩;have hsz1:W1.heap.size=w.heap.size+2:=by rw[<-hW1];simp
 have hL1:W1.heap[w.heap.size+1]?=some (.loop (rec .ready none)):=by rw[<-hW1];have:=World.alloc_heap_new (w.alloc (.deferred (some []))) (.loop (rec .ready none));rwa [World.size_alloc]at this
 have hK1:W1.heap[w.heap.size]?=some (.deferred (some [])):=by rw[<-hW1];exact(RowKit.Below.heap_alloc _ _ _ (by simp)).trans (World.alloc_heap_new w _)
 have hI1:I [] (fun _=>False) W1:=by rw[<-hW1];refine hI _ _ _ _ none (hI _ _ _ _ none h0 (World.grownBy_alloc w _ none) (fun r e=>by cases e)) (World.grownBy_alloc _ _ none) (fun r e=>by cases e)
 have hb1:Below w.heap.size w W1:=by rw[<-hW1];exact((ZuK _ w).alloc (ZwO _) _).alloc (by simp) _
 refine⟨w.heap.size+1,[{target:=.collected w.heap.size,args:=#[]}],W1,{target:=.fn (.func gf) lb,args:=#[.func (.yield (w.heap.size+1)) #[] #[]]},W1,gf,#[.func (.yield (w.heap.size+1)) #[] #[]]++lb,W1,?_,?_,?_,?_,fun _=>h1,?_⟩;·rw[<-hW1,hrec];exact run_enterLoop_outer _ _ _ _ _
 ·simp only[resolve,hg];simp[go_sem]
 ·intro f' hf';simp[Target.leads]at hf';subst hf';exact hFg
 ·simp[invoke,go_sem,eg]
 ·have keep:∀{A B:World} {row:Option Nat} {k:Nat} {o:Obj},A.grownBy B row->(∀r,row=some r->W1.heap.size<=r)->k<w.heap.size+2->A.heap[k]?=some o->B.heap[k]?=some o:=fun hg' hr hk ho=>by rw[hg'.block _ (Zuo.1 ho).1 (fun e=>by have:=hr _ e.symm;omega),ho]
  have putI:∀{K:List α->(Nat->Prop)->World->Prop},Zfa gv w.heap.size K->∀{s T W} (o:Obj),K s T W->(∀r,T r->w.heap.size+2<=r)->(∀y∈s,∀r,gv y r->w.heap.size+2<=r)->K s T (W.putObj (w.heap.size+1) o):=fun hK s T W o hs ht hv=>hK _ _ _ _ _ hs (grownBy_putObj' W _ o) fun r e=>by cases e;exact⟨by omega,fun h=>by have:=ht _ h;omega,fun y hy h=>by have:=hv y hy _ h;omega⟩
  refine(hseq (w.heap.size+1)
   (fun pre T W=>I pre T W/\W.heap[w.heap.size+1]?=some (.loop (rec .ready none))/\W.heap[w.heap.size]?=some (.deferred (some []))/\(∀r,T r->w.heap.size+2<=r)/\(∀y∈pre,∀r,gv y r->w.heap.size+2<=r))
   (fun pre T W=>∃c,Ix c pre T W/\W.heap[w.heap.size+1]?=some (.loop (rec .done (some c)))/\W.heap[w.heap.size]?=some (.deferred (some []))/\(∀r,T r->w.heap.size+2<=r)/\(∀y∈pre,∀r,gv y r->w.heap.size+2<=r)) W1 hb1 (by omega) (by omega)
   (fun s T A B row hs hg' hr=>⟨hI s T A B row hs.1 hg' (fun r e=>by have:=hr r e;exact⟨by omega,this.2⟩),keep hg' (fun r e=>(hr r e).1) (by omega) hs.2.1,keep hg' (fun r e=>(hr r e).1) (by omega) hs.2.2.1,hs.2.2.2⟩)
   (fun s T A B row hs hg' hr=>by obtain⟨c,hc,hl,hk,hts⟩:=hs;exact⟨c,hIx c s T A B row hc hg' (fun r e=>by have:=hr r e;exact⟨by omega,this.2⟩),keep hg' (fun r e=>(hr r e).1) (by omega) hl,keep hg' (fun r e=>(hr r e).1) (by omega) hk,hts⟩) ?_ ⟨hI1,hL1,hK1,fun r h=>h.elim,fun y hy=>by cases hy⟩).mono ?_
  ·rintro pre T x W ⟨hi,hl,hk,hTs,hvs⟩ hT hgv hlen hokx;have hy:=run_yield (P:=P) (args:=encs x) hl (by rw[hrec];exact hps x);rw[hrec]at hy;have hT2:∀r,T r->w.heap.size<=r/\r<W.heap.size:=fun r h=>⟨by have:=hTs r h;omega,(hT r h).2⟩;have hgv2:∀y∈pre++[x],∀r,gv y r->w.heap.size+2<=r:=fun y hy r h=>by have:=hgv y hy r h;omega
   have hlM:¬(M (w.heap.size+1)∨T (w.heap.size+1)):=by
    rintro(h|h);·have:=hM _ h;omega
    ·have:=hTs _ h;omega
   have hDM:¬(M w.heap.size∨T w.heap.size):=by
    rintro(h|h);·have:=hM _ h;omega
    ·have:=hTs _ h;omega
   refine⟨fn,_,assign,body,hy,roundIn_of_wpIn hfn (wpIn_mono (hassign _ pre T x W hi hT2 hlen hokx (fun y hy r h=>by have:=hgv2 y hy r h;omega)) ?_)⟩;rintro e a2 W2 hp;cases e with
   |normal=>
    obtain⟨ko,hx⟩:=hp;have hl2:=ko.obj hlM hl;have hk2:=ko.obj hDM hk;have hlt:w.heap.size+1<W2.heap.size:=(Zuo.1 hl2).1;have hl3:(W2.putObj (w.heap.size+1) (.loop {rec .ready none with state:=.busy})).heap[w.heap.size+1]?=some (.loop {rec .ready none with state:=.busy}):=World.putObj_heap_same hlt;have hk3:(W2.putObj (w.heap.size+1) (.loop {rec .ready none with state:=.busy})).heap[w.heap.size]?=some (.deferred (some [])):=(World.putObj_heap_other (by omega)).trans hk2;refine⟨_,run_beginRound hl2 (by rw[hrec]),?_⟩;refine wpIn_mono (hbody _ pre T x a2 _ (hAx pre T x a2 _ _ _ _ (by omega) (fun h=>hlM (.inr h)) (fun y hy h=>by have:=hgv2 y hy _ h;omega) hl2 rfl hx) (fun r h=>⟨(hT2 r h).1,by rw[World.putObj_size];exact ZwS (hT2 r h).2 ko.size⟩) hlen) ?_;have st:Lie (fun k=>M k∨T k∨k=w.heap.size+1) W (W2.putObj (w.heap.size+1) (.loop {rec .ready none with state:=.busy})):=(ko.mono (fun k _ h=>by rcases h with h|h;exact .inl h;exact .inr (.inl h))).trans (Lie.putObj _ _ _ (.inr (.inr rfl)));have fin:∀(jump:Option Code) (W3:World),Lie (fun k=>M k∨T k) (W2.putObj (w.heap.size+1) (.loop {rec .ready none with state:=.busy})) W3->(Instr.endRound (w.heap.size+1) jump).run P W3=.ok (.bool jump.isNone) (W3.putObj (w.heap.size+1) (.loop (rec (if jump.isNone then .ready else .done) jump)))/\(W3.putObj (w.heap.size+1) (.loop (rec (if jump.isNone then .ready else .done) jump))).heap[w.heap.size+1]?=some (.loop (rec (if jump.isNone then .ready else .done) jump))/\(W3.putObj (w.heap.size+1) (.loop (rec (if jump.isNone then .ready else .done) jump))).heap[w.heap.size]?=some (.deferred (some []))/\Lie (fun k=>M k∨T k∨k=w.heap.size+1) W (W3.putObj (w.heap.size+1) (.loop (rec (if jump.isNone then .ready else .done) jump))):=fun jump W3 hk4=>by have hl4:=hk4.obj hlM hl3;have:=run_endRound (P:=P) jump hl4;rw[hrec]at this |-;refine⟨this,World.putObj_heap_same (Zuo.1 hl4).1,(World.putObj_heap_other (by omega)).trans (hk4.obj hDM hk3),?_⟩;rw[hrec]at st;rw[hrec]at hk4;exact(st.trans (hk4.mono (fun k _ h=>by rcases h with h|h;exact .inl h;exact .inr (.inl h)))).trans (Lie.putObj _ _ _ (.inr (.inr rfl)))
    have hsW:W.heap.size<=(W2.putObj (w.heap.size+1) (.loop {rec .ready none with state:=.busy})).heap.size:=by rw[World.putObj_size];exact ko.size
    have hTr:∀T':Nat->Prop,(∀r,T' r->T r∨(W2.putObj (w.heap.size+1) (.loop {rec .ready none with state:=.busy})).heap.size<=r)->∀r,T' r->w.heap.size+2<=r:=fun T' h r hr=>by
     rcases h r hr with h|h;·exact hTs r h
     ·have:=ko.size;rw[World.putObj_size]at h;have:W1.heap.size<=W.heap.size∨True:=.inr trivial;have:=(Zuo.1 hl2).1;omega
    rintro e a3 W3 hp;cases e with
    |normal=>obtain⟨T',t1,t2,hk4,hi3⟩:=hp;obtain⟨hr,hl4,hk5,hli⟩:=fin none W3 hk4;have ht:=hTr T' t1;exact⟨_,_,hr,T',fun r h=>(t1 r h).imp id (ZwP hsW),fun r h=>by rw[World.putObj_size];exact t2 r h,hli,.inl ⟨rfl,putI hI _ hi3 ht hgv2,hl4,hk5,ht,hgv2⟩⟩|ret=>obtain⟨T',t1,t2,hk4,hi3⟩:=hp;obtain⟨hr,hl4,hk5,hli⟩:=fin (some .ret) W3 hk4;have ht:=hTr T' t1;exact⟨_,_,hr,T',fun r h=>(t1 r h).imp id (ZwP hsW),fun r h=>by rw[World.putObj_size];exact t2 r h,hli,.inr ⟨rfl,.ret,putI (hIx _) _ hi3 ht hgv2,hl4,hk5,ht,hgv2⟩⟩|exit id=>obtain⟨T',t1,t2,hk4,hi3⟩:=hp;obtain⟨hr,hl4,hk5,hli⟩:=fin (some (.exit id)) W3 hk4;have ht:=hTr T' t1;exact⟨_,_,hr,T',fun r h=>(t1 r h).imp (fun h=>h) (ZwP hsW),fun r h=>by rw[World.putObj_size];exact t2 r h,hli,.inr ⟨rfl,.exit id,putI (hIx _) _ hi3 ht hgv2,hl4,hk5,ht,hgv2⟩⟩|goto t=>obtain⟨T',t1,t2,hk4,hi3⟩:=hp;obtain⟨hr,hl4,hk5,hli⟩:=fin (some (.goto t)) W3 hk4;have ht:=hTr T' t1;exact⟨_,_,hr,T',fun r h=>(t1 r h).imp id (ZwP hsW),fun r h=>by rw[World.putObj_size];exact t2 r h,hli,.inr ⟨rfl,.goto t,putI (hIx _) _ hi3 ht hgv2,hl4,hk5,ht,hgv2⟩⟩|panic ch=>exact hp.elim|outgrown=>exact hp.elim
   |_=>exact hp.elim
  ·rintro e W2 ⟨⟨v,rfl⟩,(⟨xs,T,hS,hi,hl,hk,ht,hv⟩|⟨pre,T,hSp,c,hi,hl,hk,ht,hv⟩)⟩;·exact⟨none,_,by have:=run_endLoop (P:=P) hl (by rw[hrec];simp);rw[hrec]at this;exact this,hdone _ xs T _ hS (putI hI _ hi ht hv) rfl ((World.putObj_heap_other (by omega)).trans hk)⟩
   ·exact⟨some c,_,by have:=run_endLoop (P:=P) hl (by rw[hrec];simp);rw[hrec]at this;exact this,hstop _ c pre T _ hSp (putI (hIx c) _ hi ht hv) rfl ((World.putObj_heap_other (by omega)).trans hk)⟩
section
variable {ops:Array Oper} {md:Region.Mode} {C:World->Prop}
end
variable {l:List Nat} {k x j a q:Nat} {W W':World}
attribute [local go_sem] Oper.semAt_some structure ChV where
 b:Nat
 l:List Nat
def ZhT(x:ChV):Array Value:=#[.slice (some ⟨x.b,0,none⟩) x.l.length x.l.length]
def Z1(l:List Nat):List Int:=l.map fun(a:Nat)=>(a:Int)
def gvN{α:Type} (_:α)(_:Nat):Prop:=False
theorem Zfb(l:List Nat):(Z1 l).length=l.length:=by simp[Z1]
theorem Zc8{x:Nat} (h:l[k]?=some x):(Z1 l)[k]?=some (x:Int):=by simp[Z1,h]
theorem ZkE(l:List Nat)(k x:Nat):(Z1 l).set k (x:Int)=Z1 (l.set k x):=by simp[Z1,List.map_set]
theorem ZO.grown{T:TypeId} {B:Nat} {l:List Int} (h:ZO T W B l) {M:Nat->Prop} (hl:Lie M W W')(hB:¬M B):ZO T W' B l:=hl.obj hB h
theorem ZkF(hb:Below W.heap.size W W'):W.grownBy W' none:=⟨hb.os,hb.tape,hb.output,hb.size,fun k hk _=>hb.block k hk⟩
theorem ZkG(W:World) (B o:Nat) (v:Value):W.grownBy (W.setCell ⟨B,o,none⟩ v) (some B):=⟨rfl,rfl,rfl,by simp,fun k hk hne=>ZuJ W _ v k fun e=>hne (by rw[e])⟩
structure ChI (n k:Nat)(M:Nat->Prop)(w:World)(J:List ChV->(Nat->Prop)->World->Prop)(W0 B B1 B2:Nat)(i:Nat)(l:List Nat)(wr:World)(pre:List ChV)(T:Nat->Prop):Prop where
 plen:pre.length=i
 pre_:pre.map ChV.l=(cmb 0 n k).take i
 now:(cmb 0 n k)[i]?=some l
 mem:ZO 3 wr B (Z1 l)
 jj:J pre T wr
 tt:∀r,T r->W0<=r/\r<wr.heap.size/\r≠B
 c1:wr.heap[B1]?=some (.cells #[.int .i64 k] 3 (0,0))
 c2:wr.heap[B2]?=some (.cells #[.int .i64 n] 3 (0,0))
 sz:W0<=B/\B<wr.heap.size
def ZcF(k j:Nat):List Int:=Z1 (List.range' 0 j)++List.replicate (k-j) 0
theorem Zqi{j:Nat} (h:j<k):(ZcF k j).set j (j:Int)=ZcF k (j+1):=by unfold ZcF;rw[Zwx _ _ (by simp[Z1]),List.range'_1_concat,show k-j=(k-(j+1))+1 by omega,List.replicate_succ];simp[Z1]
theorem Zqj(h:j<=k):(ZcF k j).length=k:=by simp[ZcF,Z1];omega
theorem Zqk(k:Nat):ZcF k k=Z1 (List.range' 0 k):=by simp[ZcF]
def ZbB(l:List Nat) (a x q:Nat):List Nat:=l.take a++List.range' (x+1) (q-a)++l.drop q
theorem Zql(h:a<l.length):l.set a (x+1)=ZbB l a x (a+1):=by unfold ZbB;rw[show a+1-a=1 by omega];simp[List.set_eq_take_append_cons_drop,h]
theorem Zqm(h:a<q)(hq:q<l.length):(ZbB l a x q).set q (x+(q-a)+1)=ZbB l a x (q+1):=by unfold ZbB;rw[Zvi,Zwx _ _ (by simp;omega),Zv5,Zwx _ _ (by simp;omega),List.length_range',show q-min a l.length-(q-a)=0 by omega,Zvs hq,List.set_cons_zero,show q+1-a=(q-a)+1 by omega,List.range'_1_concat];simp;omega
theorem Zqn(h:a<q)(hq:q<=l.length):(ZbB l a x q).length=l.length:=by simp[ZbB];omega
theorem Zqo(h:a<q)(hq:q<=l.length):(ZbB l a x q)[q-1]?=some (x+(q-a)):=by unfold ZbB;rw[Zvi,ZvI (by simp;omega),Zv5,ZvH (by simp;omega)];rw[List.getElem?_range' (by omega)];congr 1;omega
theorem Zqp:ZbB l a x l.length=l.take a++List.range' (x+1) (l.length-a):=by simp[ZbB]
variable {w:World} {b T:Nat} {cs:List Value}
def boolL(n:Nat)(z:List Nat):List Value:=(List.range n).map fun i=>.bool (decide (i∈z))
def ZV(pv ev zv tv:Value)(z t:List Nat):List Value:=pv::ev::zv::tv::(boolL 5 z++boolL 8 t)
theorem Zf4(n k:Nat)(z:List Nat)(h:k<n):(boolL n z)[k]?=some (.bool (decide (k∈z))):=by simp[boolL,List.getElem?_range h]
theorem ZhU(pv ev zv tv:Value)(z t:List Nat)(k:Nat)(h:k<5):(ZV pv ev zv tv z t)[4+k]?=some (.bool (decide (k∈z))):=by rw[ZwH];show (boolL 5 z++boolL 8 t)[k]?=_;rw[ZvH (by simp[boolL];exact h),Zf4 5 k z h]
theorem ZkH(pv ev zv tv:Value)(z t:List Nat)(k:Nat)(h:k<8):(ZV pv ev zv tv z t)[9+k]?=some (.bool (decide (k∈t))):=by rw[ZwH,show k+9=(k+5)+4 by omega];show (boolL 5 z++boolL 8 t)[k+5]?=_;rw[ZvI (by simp[boolL]),show k+5-(boolL 5 z).length=k by simp[boolL],Zf4 8 k t h]
theorem ZkI(n x:Nat)(z:List Nat)(h:x<n):(boolL n z).set x (.bool true)=boolL n (z++[x]):=by
 apply Zvz;intro j;rw[List.getElem?_set];by_cases hj:j<n
 ·rw[Zf4 n j _ hj,Zf4 n j _ hj];by_cases e:x=j;·subst e;simp[boolL,h]
  ·rw[if_neg e];have:¬j=x:=fun h=>e h.symm;simp[this]
 ·have h1:(boolL n z)[j]?=none:=ZvM (by simp[boolL];omega);have h2:(boolL n (z++[x]))[j]?=none:=ZvM (by simp[boolL];omega);rw[h1,h2,if_neg (by omega)]
theorem Zqq(pv ev zv tv:Value) (z t:List Nat) (x:Nat) (h:x<5):(ZV pv ev zv tv z t).toArray.setIfInBounds (4+x) (.bool true)=(ZV pv ev zv tv (z++[x]) t).toArray:=by rw[List.setIfInBounds_toArray,ZwH 4 x];congr 1;show pv::ev::zv::tv::(boolL 5 z++boolL 8 t).set x (.bool true)=_;rw[List.set_append_left _ _ (by simp[boolL];exact h),ZkI 5 x z h];rfl
theorem Zqr(pv ev zv tv:Value) (z t:List Nat) (x:Nat) (h:x<8):(ZV pv ev zv tv z t).toArray.setIfInBounds (9+x) (.bool true)=(ZV pv ev zv tv z (t++[x])).toArray:=by rw[List.setIfInBounds_toArray,ZwH 9 x,show x+9=(x+5)+4 by omega];congr 1;show pv::ev::zv::tv::(boolL 5 z++boolL 8 t).set (x+5) (.bool true)=_;rw[Zwx _ _ (by simp[boolL]),show x+5-(boolL 5 z).length=x by simp[boolL],ZkI 8 x t h];rfl
theorem Zqs(pv ev zv tv v:Value)(z t:List Nat):(ZV pv ev zv tv z t).toArray.setIfInBounds 2 v=(ZV pv ev v tv z t).toArray:=by simp[ZV]
theorem Zqt(pv ev zv tv v:Value)(z t:List Nat):(ZV pv ev zv tv z t).toArray.setIfInBounds 3 v=(ZV pv ev zv v z t).toArray:=by simp[ZV]
theorem ZaA(h:w.heap[b]?=some (.cells cs.toArray T (0,0))) {k:Nat} {v:Value} (hv:cs[k]?=some v):w.cell? ⟨b,k,none⟩=some v:=by unfold World.cell?;simp only[h];simpa using hv
theorem Zei(h:w.heap[b]?=some (.cells cs.toArray T (0,0)))(k:Nat):w.frozen? ⟨b,k,none⟩=false:=by unfold World.frozen?;simp only[h];simp
theorem ZhV{pv ev zv tv:Value} {z t:List Nat} (h:w.heap[b]?=some (.cells (ZV pv ev zv tv z t).toArray 137 (0,0))):w.cell? ⟨b,0,none⟩=some pv/\w.cell? ⟨b,1,none⟩=some ev/\w.cell? ⟨b,2,none⟩=some zv/\w.cell? ⟨b,3,none⟩=some tv/\w.frozen? ⟨b,2,none⟩=false/\w.frozen? ⟨b,3,none⟩=false/\b<w.heap.size:=⟨ZaA h rfl,ZaA h rfl,ZaA h rfl,ZaA h rfl,Zei h 2,Zei h 3,ZI h⟩
theorem Zqu(np:Nat)(l:List Nat)(x:Nat):zerosL np (l++[x])=if x<np then zerosL np l++[x]else zerosL np l:=by unfold zerosL;rw[List.filter_append];by_cases h:x<np<;>simp[h]
theorem Zqv(np:Nat)(l:List Nat)(x:Nat):tightL np (l++[x])=if x<np then tightL np l else tightL np l++[x-np]:=by
 unfold tightL;rw[List.filter_append];by_cases h:x<np
 ·have:¬np<=x:=by omega
  simp[h,this]
 ·have:np<=x:=by omega
  simp[h,this]
structure BasI (base bb:Nat)(pv ev:Value)(z t:List Nat)(zv tv:Value)(wr:World):Prop where
 blk:wr.heap[bb]?=some (.cells (ZV pv ev zv tv z t).toArray 137 (0,0))
 oz:wr.ownsRow base 3 1 zv z.length ((Z1 z).map (Value.int .i64))
 ot:wr.ownsRow base 3 1 tv t.length ((Z1 t).map (Value.int .i64))
 ap:∀g,zv.ownBlock=some g->tv.ownBlock≠some g
variable {w:World} {base c:Nat} {v:Value} {xs:List IR}
structure RowsOwn (wr:World)(base:Nat)(v:Value)(xs:List IR):Prop where
 own:wr.ownsRow base 28 1 v xs.length (xs.map fun x=>.slice x.A x.l.length x.c)
 row:∀x∈xs,At 1 Zc wr x.A x.l/\∀g,x.A=some g->base<=g.block/\g.block<wr.heap.size/\some g.block≠v.ownBlock
theorem RowsOwn.nil(wr:World)(base:Nat):RowsOwn wr base (.slice none 0 0) []:=⟨World.ownsRow_nil _ _ _ _,fun x h=>by cases h⟩
theorem RowsOwn.below{w':World} (h:RowsOwn w base v xs)(hb:Below w.heap.size w w'):RowsOwn w' base v xs:=⟨ZN h.own hb,fun x hx=>⟨(h.row x hx).1.below hb,fun g hg=>by have:=(h.row x hx).2 g hg;exact⟨this.1,ZwS this.2.1 hb.size,this.2.2⟩⟩⟩
theorem RowsOwn.rowsAt{A:Option Addr} {n:Nat} (h:RowsOwn w base (.slice A n c) xs):Zcm w A xs:=by refine⟨fun k x hx=>?_,fun x hx=>(h.row x hx).1⟩;have ho:=h.own;obtain⟨A',c',e⟩:=Zac ho;cases e;obtain⟨g,hA,-,h2,h3⟩:=Zeb ho (k:=k) (u:=.slice x.A x.l.length x.c) (by rw[ZvP,hx];rfl);refine⟨g,0,hA,h2,fun j v hv=>?_⟩;cases j with|zero=>simp[IR.cs]at hv;subst hv;simpa using h3|succ j=>simp[IR.cs]at hv
theorem RowsOwn.push{w1 w3:World} (h:RowsOwn w base v xs)(hw1:Below w.heap.size w w1) {x:IR} {g9:Addr} (hA:x.A=some g9)(hat:At 1 Zc w1 x.A x.l)(hb9:base<=g9.block)(hl9:g9.block<w1.heap.size)(hn9:some g9.block≠v.ownBlock)(hg:w1.grownBy w3 v.ownBlock) {g cap:Nat} (ho:w3.ownsRow base 28 1 (.slice (some ⟨g,0,none⟩) (xs.length+1) cap) (xs.length+1) ((xs.map fun x=>Value.slice x.A x.l.length x.c)++[.slice x.A x.l.length x.c])) (hor:v.ownBlock=some g∨g=w1.heap.size):RowsOwn w3 base (.slice (some ⟨g,0,none⟩) (xs.length+1) cap) (xs++[x]):=by
 have hne:∀k,k<w1.heap.size->some k≠v.ownBlock->some k≠some g:=fun k hk hk2 e=>by
  rcases hor with h|h;·exact hk2 (e.trans h.symm)
  ·cases e;omega
 have hatg:∀(A:Option Addr)(l:List Int),At 1 Zc w1 A l->(∀g,A=some g->some g.block≠v.ownBlock)->At 1 Zc w3 A l:=fun A l hat hn k y hy=>by obtain⟨b,o,hA,hlt,hc⟩:=hat k y hy;refine⟨b,o,hA,ZwS hlt hg.size,fun j u hu=>?_⟩;rw[<-hc j u hu];exact World.cell?_of_block (a:=⟨b,o+k*1+j,none⟩) (hg.block b hlt (hn _ hA))
 refine⟨?_,fun y hy=>?_⟩;·rw[ZvZ,Zv9];exact ho
 ·rcases Zwf.1 hy with hy|hy;·obtain⟨r1,r2⟩:=h.row y hy;refine⟨hatg _ _ (r1.below hw1) fun g hg=>(r2 g hg).2.2,fun a ha=>?_⟩;obtain⟨q1,q2,q3⟩:=r2 a ha;have q4:=ZwS q2 hw1.size;exact⟨q1,ZwS q4 hg.size,hne _ q4 q3⟩
  ·rw[Zwp]at hy;subst hy;refine⟨hatg _ _ hat fun g hg=>?_,fun a ha=>?_⟩;·rw[hA]at hg;cases hg;exact hn9
   ·rw[hA]at ha;cases ha;exact⟨hb9,ZwS hl9 hg.size,hne _ hl9 hn9⟩
theorem ZkJ(es:List Ex)(z t:List Nat):∀(ws:List Int)(k:Nat)(w:Int),proofRows es z t k (ws++[w])=proofRows es z t k ws++if k+ws.length∈z then []else [ZbH es t (k+ws.length) w]
 |[],k,w=>by simp only[Zwr,proofRows,Zv3,ZwK]|v::ws,k,w=>by
  have:=ZkJ es z t ws (k+1) w;rw[show k+1+ws.length=k+(v::ws).length by simp only[Zv0];omega]at this;simp only[Zvm,proofRows];split;·exact this
  ·rw[this];rfl
def ZdI(es:List Ex)(t:List Nat)(c j:Nat):List Int:=1::(t.take j).map fun i=>-((es.getD i default).1.getD c 0)
theorem Zqw{es:List Ex} {t:List Nat} {j i:Nat} (h:t[j]?=some i):ZdI es t c (j+1)=ZdI es t c j++[-((es.getD i default).1.getD c 0)]:=by unfold ZdI;rw[ZwA,h];simp
theorem Zqx(es:List Ex)(t:List Nat)(c:Nat)(w:Int):ZdI es t c t.length++[w]=ZbH es t c w:=by simp[ZdI,ZbH]
theorem Tryz.info31:(Tryz.prog.info? 28).map (fun i=>(i.zero,i.size,i.bytes))=some (some (.slice none 0 0),1,24):=by kernel_rfl
section
variable {P:Program}
theorem Zqy {id : Nat} {Q : Exit -> Act -> World -> Prop} {a0 : Act} {w : World} {l : List Oper} (n : Nat) (oz : Oper) (hm : P.follows .mixedOrders = true) (hn : l.length = n + 1) (hz : l[n]? = some oz)
    (hB : Zam (l.take n).toArray = true) (hG : l.all (fun o => o.guard.isNone) = true) (hA : (List.range n).all (fun i => oz.after.any fun e => Region.binds .any e && e.on == i) = true) (hE : oz.after.all (fun e => !Region.binds .any e || decide (e.on < n)) = true)
    (h : wpAny P .any (l.take n).toArray (fun e a x => match e with | .normal => oz.wp P a x (fun a' x' => Q .normal a' x') Q | e => Q e a x) (l.take n).toArray.size (Array.replicate (l.take n).toArray.size false) a0 { w with drawn := w.drawn + 1 }) :
    (Code.region id l.toArray true).wp P Q a0 w := by
  have H := ZdD hB
  have hlen : (l.take n).length = n := by simp; omega
  have hgn : ∀ (i : Nat) (o : Oper), l[i]? = some o -> o.guard = none := fun i o ho => by
    have := Zve.1 hG o (Zwn ho)
    simpa using this
  have get0 : ∀ i, i < n -> (l.take n).toArray[i]? = l.toArray[i]? := fun i hi => by simp [ZvV hi]
  have getn : ∀ i, n <= i -> (l.take n).toArray[i]? = none := fun i hi => by simp [ZvM (show (l.take n).length <= i by omega)]
  have pushD : ∀ (listed : Array Bool) (b d : Bool) (i : Nat), listed.size = n -> i < n -> (listed.push b).getD i d = listed.getD i d := fun listed b d i hs hi => by
    rw [Zuj, Zuj, Zut (by omega)]
    simp [Zum (show i < listed.size by omega)]
  have pushL : ∀ (listed : Array Bool) (b d : Bool), listed.size = n -> (listed.push b).getD n d = b := fun listed b d hs => by
    rw [Zuj, <- hs]
    simp
  have rdy : ∀ (listed : Array Bool) (b : Bool) (i : Nat), listed.size = n -> i < n -> (i ∈ Region.ready .any l.toArray (listed.push b) ↔ i ∈ Region.ready .any (l.take n).toArray listed) := fun listed b i hs hi => by
    rw [mem_ready, mem_ready, pushD _ _ _ _ hs hi, get0 i hi]
    constructor
    · rintro ⟨h1, o, ho, h2⟩
      refine ⟨h1, o, ho, fun e he hb => ?_⟩
      have := H.after i o e ((get0 i hi).trans ho) he hb
      rw [<- pushD listed b false e.on hs (by omega)]
      exact h2 e he hb
    · rintro ⟨h1, o, ho, h2⟩
      refine ⟨h1, o, ho, fun e he hb => ?_⟩
      have := H.after i o e ((get0 i hi).trans ho) he hb
      rw [pushD listed b false e.on hs (by omega)]
      exact h2 e he hb
  have gen : ∀ (f : Nat) (listed : Array Bool) (a : Act) (x : World), listed.size = n -> wpAny P .any (l.take n).toArray (fun e a x => match e with | .normal => oz.wp P a x (fun a' x' => Q .normal a' x') Q | e => Q e a x) f listed a x -> wpAny P .any l.toArray Q (f + 1) (listed.push false) a x := by
    have fin : ∀ (f : Nat) (listed : Array Bool) (a : Act) (x : World), listed.size = n -> (∀ i, i < n -> listed.getD i true = true) -> oz.wp P a x (fun a' x' => Q .normal a' x') Q -> wpAny P .any l.toArray Q (f + 1) (listed.push false) a x := by
      intro f listed a x hs hu hw
      have hrn : n ∈ Region.ready .any l.toArray (listed.push false) := by
        rw [mem_ready]
        refine ⟨pushL _ _ _ hs, oz, by simpa using hz, fun e he hb => ?_⟩
        have h1 := Zua.1 hE e he
        rw [hb] at h1
        simp only [ZuU, ZuR, decide_eq_true_eq] at h1
        rw [pushD _ _ _ _ hs h1]
        have := hu e.on h1
        rw [Zuj, Zum (by omega)] at this |-
        exact this
      refine ⟨fun h0 => (by rw [h0] at hrn; cases hrn), fun i hi => ?_⟩
      have hin : i = n := by
        obtain ⟨h1, o, ho, -⟩ := mem_ready.1 hi
        have hlt : i < l.length := by simpa using Zan ho
        rcases ZwT i n with h | h
        · rw [pushD _ _ _ _ hs h, hu i h] at h1
          cases h1
        · omega
      subst hin
      have hset : (listed.push false).setIfInBounds i true = listed.push true := by
        apply Zug
        intro j
        rw [Zuv, Zus, Zus]
        simp only [ZuG, hs]
        by_cases h : i = j
        · subst h; simp [hs]
        · simp [h, hs, Ne.symm h]
      have hlast : wpAny P .any l.toArray Q f (listed.push true) = fun a' x' => wpAny P .any l.toArray Q f (listed.push true) a' x' := rfl
      have hr0 : Region.ready .any l.toArray (listed.push true) = [] := by
        rw [Zvv]
        intro j hj
        obtain ⟨h1, o, ho, -⟩ := mem_ready.1 hj
        have hlt : j < l.length := by simpa using Zan ho
        rcases ZwT j i with h | h
        · rw [pushD _ _ _ _ hs h, hu j h] at h1
          cases h1
        · have : j = i := by omega
          subst this
          rw [pushL _ _ _ hs] at h1
          cases h1
      have hK : ∀ a' x', Q .normal a' x' -> wpAny P .any l.toArray Q f (listed.push true) a' x' := fun a' x' h => by
        cases f with
        | zero => exact ⟨hr0, h⟩
        | succ f => exact ⟨fun _ => h, fun j hj => by rw [hr0] at hj; cases hj⟩
      unfold wpOp
      have hzi : l.toArray[i]? = some oz := by simpa using hz
      simp only [hzi]
      have hwn : Region.wanted oz (yielded l.toArray a.tmps) = true := by unfold Region.wanted; rw [hgn i oz hz]
      rw [if_pos hwn, hset]
      exact .inl (Oper.wp_mono hK hw)
    intro f
    induction f with
    | zero =>
      rintro listed a x hs ⟨hr, hq⟩
      exact fin 0 listed a x hs (fun i hi => Zc5 H (by simp [hs]; omega) hr i (by simp; omega)) hq
    | succ f ih =>
      rintro listed a x hs ⟨hr, hq⟩
      by_cases hr0 : Region.ready .any (l.take n).toArray listed = []
      · exact fin (f + 1) listed a x hs (fun i hi => Zc5 H (by simp [hs]; omega) hr0 i (by simp; omega)) (hr hr0)
      · have hnn : ∀ i, i ∈ Region.ready .any l.toArray (listed.push false) -> i < n := by
          intro i hi
          obtain ⟨h1, o, ho, h2⟩ := mem_ready.1 hi
          have hlt : i < l.length := by simpa using Zan ho
          rcases ZwT i n with h | h
          · exact h
          · have hin : i = n := by omega
            subst hin
            exfalso
            obtain ⟨j, hj⟩ := Zvy _ hr0
            obtain ⟨h3, o3, ho3, -⟩ := mem_ready.1 hj
            have hji : j < i := by
              rcases ZwT j i with h | h
              · exact h
              · rw [getn j h] at ho3; cases ho3
            have hzo : o = oz := by
              rw [show l.toArray[i]? = l[i]? by simp, hz] at ho
              exact (Zxh ho).symm
            subst hzo
            have h4 := Zve.1 hA j (Zwo.2 hji)
            obtain ⟨e, he, hb⟩ := Array.any_eq_true'.1 h4
            simp only [ZuM, beq_iff_eq] at hb
            have h5 := h2 e he hb.1
            rw [hb.2, pushD _ _ _ _ hs hji] at h5
            rw [Zuj, Zum (by omega)] at h3 h5
            simp only [Zxd] at h3 h5
            rw [h3] at h5
            cases h5
        refine ⟨fun h0 => ?_, fun i hi => ?_⟩
        · exfalso
          obtain ⟨j, hj⟩ := Zvy _ hr0
          have hji : j < n := by
            obtain ⟨h3, o3, ho3, -⟩ := mem_ready.1 hj
            rcases ZwT j n with h | h
            · exact h
            · rw [getn j h] at ho3; cases ho3
          have := (rdy listed false j hs hji).2 hj
          rw [h0] at this
          cases this
        · have hin := hnn i hi
          have hi0 := (rdy listed false i hs hin).1 hi
          have h6 := hq i hi0
          obtain ⟨-, o, ho, -⟩ := mem_ready.1 hi0
          have hol : l.toArray[i]? = some o := (get0 i hin).symm.trans ho
          have hg := hgn i o (by simpa using hol)
          unfold wpOp at h6 |-
          simp only [ho] at h6
          simp only [hol]
          have hw1 : ∀ y, Region.wanted o y = true := fun y => by unfold Region.wanted; rw [hg]
          rw [if_pos (hw1 _)] at h6
          rw [if_pos (hw1 _)]
          have hset : (listed.push false).setIfInBounds i true = (listed.setIfInBounds i true).push false := by
            apply Zug
            intro j
            rw [Zuv, Zus, Zus, Zuv]
            simp only [ZuG, ZuH, hs]
            by_cases h : i = j
            · subst h; simp [hs, hin, Nat.lt_succ_of_lt hin, Nat.ne_of_lt hin]
            · simp [h]
          rw [hset]
          have hmono : ∀ a' x', wpAny P .any (l.take n).toArray (fun e a x => match e with | .normal => oz.wp P a x (fun a' x' => Q .normal a' x') Q | e => Q e a x) f (listed.setIfInBounds i true) a' x' -> wpAny P .any l.toArray Q (f + 1) ((listed.setIfInBounds i true).push false) a' x' := fun a' x' h => ih _ a' x' (by simp [hs]) h
          rcases h6 with h6 | ⟨h6, h7⟩
          · left
            refine Oper.wp_mono hmono ?_
            unfold Oper.wp at h6 |-
            generalize (execOp a.eval o).run P x = r at *
            cases r with
            | ok nx w' =>
              cases nx with
              | enter f' args => exact (show Calls P f' args w' _ from h6).mono fun e w'' he => by cases e <;> exact he
              | _ => exact h6
            | halt v w' => cases v <;> exact h6
          · right
            exact ⟨h6, h7⟩
  have hpr : (Array.replicate (l.take n).toArray.size false).push false = Array.replicate l.toArray.size false := by
    rw [<- ZuF]
    congr 1
    simp
    omega
  have := gen _ _ _ _ (by simp; omega) h
  rw [hpr] at this
  refine wp_region_any hm ?_
  have e : (l.take n).toArray.size + 1 = l.toArray.size := by simp; omega
  rwa [e] at this
theorem Zc9{Q:Exit->Act->World->Prop} {a0:Act} {w:World} {l:List Oper} (w0:World)(C:World->Prop)(sp:List Nat)(mk:Nat->Gh->Value)(J:(Nat->Bool)->(Nat->Gh)->World->Prop)(af:(Nat->Gh)->Act)(hB:Zam l.toArray=true)(hB':∀g,Zam (mixL sp mk g 0 l).toArray=true)(hS:Region.noSelect l.toArray=true)(hN:spB l.toArray sp=true)(hC0:C w)(hCs:∀x x',C x->Below x.heap.size x x'->C x')(hCw:∀x,C x->Below w0.heap.size w0 x)(h0:∀L,(∀j∈sp,L j=false)->J L (fun _=>Gh.zero) w)(hst:∀L L' g x x',(∀j∈sp,L' j=L j)->J L g x->Below x.heap.size x x'->J L' g x')(hq:∀g u,C u->(∀(x:Grew u)(b o:Nat),b<u.heap.size->x.val.cell? ⟨b,o,none⟩=u.cell? ⟨b,o,none⟩)->Hid (∀x:Grew u,Below w0.heap.size w0 x.val)->Hid (∀x:Grew u,C x.val)->wpQuiet P (mixL sp mk g 0 l).toArray (fun w'=>∃x:Grew u,w'=x.val) (fun a'=>a'=af g) (mixL sp mk g 0 l) a0)(hind:∀j∈sp,∀g h,Zap (Zas l.toArray j 0 l []) 0 (af g).tmps.toList=Zap (Zas l.toArray j 0 l []) 0 (af (upd g j h)).tmps.toList)(hsp:∀j∈sp,∀o,l[j]?=some o->∀(L:Nat->Bool)(g:Nat->Gh)(x:World),J L g x->C x->Below w0.heap.size w0 x->L j=false->(∀e∈o.after,Region.binds .any e=true->L e.on=true)->(∀(i:Nat)(o:Oper),l[i]?=some o->L i=true->∀e∈o.after,Region.binds .any e=true->L e.on=true)->ZbU P (fun v x'=>C x'/\((o.dst=none/\J (ZaT L j) g x')∨∃h,v=mk j h/\J (ZaT L j) (upd g j h) x')) ((execOp (af g).eval o).run P x))(hend:∀g x,J (fun _=>true) g x->C x->Below w0.heap.size w0 x->Q .normal (af g) x):wpAny P .any l.toArray Q l.toArray.size (Array.replicate l.toArray.size false) a0 {w with drawn:=w.drawn+1}:=by
 have H:=ZdD hB;have H':=fun g=>ZdD (hB' g);have hsel:=Region.noSelect_spec hS;have hgn:∀j∈sp,∀o,l.toArray[j]?=some o->o.guard=none:=fun j hj o ho=>by unfold spB at hN;have:=Zve.1 hN j hj;rw[ho]at this;simpa using this
 have get':∀g (j:Nat),(mixL sp mk g 0 l).toArray[j]?=(l.toArray[j]?).map fun o=>if sp.contains j then yieldsC (mk j (g j)) o else o:=fun g j=>by have:=ZdF sp mk g l 0 j;simpa using this
 have hdst:∀(g:Nat->Gh)(j:Nat)(o:Oper),(if sp.contains j=true then yieldsC (mk j (g j)) o else o).dst=o.dst:=fun g j o=>by split<;>rfl
 have hyd:∀(g:Nat->Gh)(t:Array Value)(k:Nat),yielded (mixL sp mk g 0 l).toArray t k=yielded l.toArray t k:=fun g t k=>by unfold yielded;rw[get'];cases l.toArray[k]? with
  |none=>rfl|some o=>simp only[Zxg,Zxc,hdst]
 have hwt:∀(g:Nat->Gh)(o:Oper)(t:Array Value),Region.wanted o (yielded (mixL sp mk g 0 l).toArray t)=Region.wanted o (yielded l.toArray t):=fun g o t=>by have:yielded (mixL sp mk g 0 l).toArray t=yielded l.toArray t:=funext (hyd g t);rw[this]
 have hsel':∀(g:Nat->Gh)(j:Nat)(o:Oper) cs b,(mixL sp mk g 0 l).toArray[j]?=some o->o.op≠.select cs b:=fun g j o cs b ho=>by rw[get']at ho;cases hj:l.toArray[j]? with|none=>rw[hj]at ho;cases ho|some o'=>
   rw[hj]at ho;simp only[Zxg,Zxi]at ho;subst ho;split;·simp[yieldsC]
   ·exact hsel j o' cs b hj
 have hfin:=fun g u hu=>ZhH (H' g) (hsel' g) (mixL sp mk g 0 l) 0 a0 (fun j=>by simp) (hq g u hu (fun x=>x.cell) (fun x=>hCw _ (hCs _ _ hu x.ok)) (fun x=>hCs _ _ hu x.ok));have hsz:∀g,a0.tmps.size=(af g).tmps.size:=fun g=>(hfin g w hC0).2.1;have hdf:∀g,a0.defers=(af g).defers:=fun g=>(hfin g w hC0).2.2.1;have hun:∀(g:Nat->Gh)(s:Nat),(∀(j:Nat)(oj:Oper),l.toArray[j]?=some oj->oj.dst≠some s)->a0.tmps[s]?=(af g).tmps[s]?:=fun g s hs=>(hfin g w hC0).2.2.2 s fun j oj _ hj hd=>by rw[get']at hj;cases hjj:l.toArray[j]? with|none=>rw[hjj]at hj;cases hj|some o'=>rw[hjj]at hj;simp only[Zxg,Zxi]at hj;exact hs j o' hjj (by rw[<-hd,<-hj];exact(hdst g j o').symm)
 have hquiet:∀(g:Nat->Gh)(i:Nat)(o:Oper),i∉sp->l.toArray[i]?=some o->∀u,C u->∃v,YieldsIn P l.toArray (above u) o v (af g)/\∀s,o.dst=some s->s<(af g).tmps.size->(af g).tmps[s]?=some v:=by
  intro g i o hi ho u hu;have hc:sp.contains i=false:=by simpa using hi
  have ho':(mixL sp mk g 0 l).toArray[i]?=some o:=by rw[get',ho];simp[hi]
  obtain⟨v,hy,hv⟩:=(hfin g u hu).1 i o (Zxa _) ho';refine⟨v,?_,hv⟩;rw[Zkq];unfold YieldsIn at*;rwa [hwt]at hy
 have hres:∀(g:Nat->Gh)(j:Nat)(o:Oper)(d:Nat),j∈sp->l.toArray[j]?=some o->o.dst=some d->d<(af g).tmps.size->(af g).tmps[d]?=some (mk j (g j)):=by
  intro g j o d hj ho hd hlt;have hc:sp.contains j=true:=by simpa using hj
  have ho':(mixL sp mk g 0 l).toArray[j]?=some (yieldsC (mk j (g j)) o):=by rw[get',ho];simp[hj]
  obtain⟨v,hy,hv⟩:=(hfin g w hC0).1 j _ (Zxa _) ho';have:=hv d hd hlt;rw[this];rcases hy with⟨_,h2⟩|⟨h1,_⟩
  ·have h3:=h2 w ⟨⟨w,ZuK _ _⟩,rfl⟩;unfold Oper.quietAt at h3;have h4:(execOp (af g).eval (yieldsC (mk j (g j)) o)).run P w=.ok (.value (mk j (g j))) w:=by unfold execOp yieldsC;rfl
   rw[h4]at h3;simp only[Oper.quietUpon]at h3;rw[h3.2]
  ·unfold Region.wanted at h1;rw[show (yieldsC (mk j (g j)) o).guard=none from hgn j hj o ho]at h1;cases h1
 have hcone:∀(L:Nat->Bool),(∀(i:Nat)(o:Oper),l.toArray[i]?=some o->L i=true->∀e∈o.after,Region.binds .any e=true->L e.on=true)->∀j,L j=false->∀d∈Zas l.toArray j 0 l [],∃(i:Nat)(o:Oper),l.toArray[i]?=some o/\o.dst=some d/\L i=false:=by
  intro L hcl j hj;refine ZhI (G:=fun d=>∃(i:Nat) (o:Oper),l.toArray[i]?=some o/\o.dst=some d/\L i=false) ?_ l 0 [] (fun k=>by simp) (fun d hd=>by simp at hd);intro i o d ho hd hor;refine⟨i,o,ho,hd,?_⟩;rcases hor with rfl|⟨s,hs,i',o',ho',hd',hL⟩;·exact hj
  ·obtain⟨_,e,he,hb,hon⟩:=H.look i o s i' o' ho hs ho' hd';cases hLi:L i with|false=>rfl|true=>have:=hcl i o ho hLi e he hb;rw[hon,hL]at this;cases this
 have hone:∀(listed:Array Bool)(a:Act)(x:World),listed.size=l.toArray.size->Zc6 l.toArray C J af listed a x->Region.ready .any l.toArray listed=[]->Q .normal a x:=by
  rintro listed a x hz ⟨hb,-,g,hag,hJ⟩ hr;have hu:=Zc5 H hz hr;rw[Zkp hag hu];have:(fun j=>listed.getD j true)=fun _=>true:=funext fun j=>by
   by_cases hj:j<l.toArray.size;·exact hu j hj
   ·simp[Zun (show listed.size<=j by omega)]
  rw[this]at hJ;exact hend g x hJ hb (hCw _ hb)
 have hstep:∀(listed:Array Bool)(a:Act)(x:World)(i:Nat),i∈Region.ready .any l.toArray listed->Zc6 l.toArray C J af listed a x->wpOp P l.toArray Q i (fun a' x'=>Zc6 l.toArray C J af (listed.setIfInBounds i true) a' x') a x:=by
  rintro listed a x i hi ⟨hb,hcl,g,hag,hJ⟩;obtain⟨hiu,o,ho,hall⟩:=mem_ready.1 hi;have hlk:=Zkn H hag ho hi;have hcl':∀(i':Nat)(o':Oper),l.toArray[i']?=some o'->(listed.setIfInBounds i true).getD i' true=true->∀e∈o'.after,Region.binds .any e=true->(listed.setIfInBounds i true).getD e.on true=true:=by
   intro i' o' ho' hL e he hbd;have key:listed.getD e.on true=true:=by
    by_cases hii:i=i';·subst hii;obtain rfl:o=o':=Zxh (ho.symm.trans ho');exact ZdE (hall e he hbd)
    ·rw[getD_set_ne true hii]at hL;exact hcl i' o' ho' hL e he hbd
   by_cases hon:i=e.on;·rw[hon,Zf2]
   ·rw[getD_set_ne true hon];exact key
  by_cases hisp:i∈sp
  ·have hg:=hgn i hisp o ho;have hd:=hsp i hisp o (by simpa using ho) _ g x hJ hb (hCw _ hb) hiu (fun e he hbd=>ZdE (hall e he hbd)) (fun i' o' ho'=>hcl i' o' (by simpa using ho'));rw[<-ZhE (hsel i o · · ho) hlk]at hd;unfold wpOp;simp only[ho];have hwn:Region.wanted o (yielded l.toArray a.tmps)=true:=by unfold Region.wanted;rw[hg]
   rw[if_pos hwn];refine .inl (Zku hd ?_);rintro v x' ⟨hb',hK⟩;refine⟨hb',hcl',?_⟩;rw[Zkv];rcases hK with⟨hdn,hJ'⟩|⟨h,rfl,hJ'⟩;·exact⟨g,Zf1 H hag ho (fun s hs=>by rw[hdn]at hs;cases hs),hJ'⟩
   ·refine⟨upd g i h,⟨by rw[Ze6];exact hag.1.trans ((hsz g).symm.trans (hsz _)),by rw[ZfY];exact hag.2.1.trans ((hdf g).symm.trans (hdf _)),fun s hs=>?_⟩,hJ'⟩;by_cases hds:o.dst=some s
    ·rw[hds];by_cases hlt:s<(af (upd g i h)).tmps.size;·rw[ZfZ (by rw[hag.1,<-hsz g,hsz (upd g i h)];exact hlt),hres _ i o s hisp ho hds hlt];unfold upd;rw[if_pos rfl]
     ·rw[ZhG (by rw[hag.1,<-hsz g,hsz (upd g i h)];exact hlt),Zun (by omega)]
    ·rw[Ze5 hds];have hs':∀(j:Nat)(oj:Oper),l.toArray[j]?=some oj->oj.dst=some s->listed.getD j true=true:=fun j oj hj hdj=>by
      have hij:i≠j:=by rintro rfl;obtain rfl:o=oj:=Zxh (ho.symm.trans hj);exact hds hdj
      have:=hs j oj hj hdj;rwa [getD_set_ne true hij]at this
     rw[hag.2.2 s hs'];refine Zkt (hind i hisp g h) fun hc=>?_;obtain⟨j,oj,hj,hdj,hL⟩:=hcone (fun j=>listed.getD j true) hcl i hiu s hc;have:=hs' j oj hj hdj;rw[this]at hL;cases hL
  ·obtain⟨v,hy,hv⟩:=hquiet g i o hisp ho x hb;have hy':=ZhF (hsel i o · · ho) (fun s hs=>(hlk s hs).symm) hy;refine Zko ho hy' (ZuK _ _) fun x' hx'=>⟨hCs _ _ hb hx',hcl',g,Zf1 H hag ho hv,?_⟩;refine hst _ _ g x x' (fun j hj=>?_) hJ hx';have hij:i≠j:=by rintro rfl;exact hisp hj
   rw[getD_set_ne true hij]
 have hloop:∀(f:Nat)(listed:Array Bool)(a:Act)(x:World),listed.size=l.toArray.size->Zee l.toArray.size listed<=f->Zc6 l.toArray C J af listed a x->wpAny P .any l.toArray Q f listed a x:=by intro f;induction f with
  |zero=>
   intro listed a x hz hf h;have hr:Region.ready .any l.toArray listed=[]:=by rw[Zvv];intro i hi;obtain⟨hiu,o,ho,_⟩:=mem_ready.1 hi;have:=Zf0 (n:=l.toArray.size) (Zan ho) hiu;omega
   exact⟨hr,hone listed a x hz h hr⟩|succ f ih=>intro listed a x hz hf h;refine⟨fun hr=>hone listed a x hz h hr,fun i hi=>?_⟩;obtain⟨hiu,o,ho,_⟩:=mem_ready.1 hi;have hl:=Zf0 (n:=l.toArray.size) (Zan ho) hiu;exact wpOp_mono (fun a' x' h'=>ih _ a' x' (by simpa using hz) (by omega) h') (hstep listed a x i hi h)
 have hL0:∀j,j<l.length->(Array.replicate l.toArray.size false).getD j true=false:=fun j hj=>by simp[hj]
 refine hloop _ _ _ _ (by simp) ?_ ⟨hCs _ _ hC0 (ZuK _ w).drew,fun i o ho hL=>?_,fun _=>Gh.zero,⟨hsz _,hdf _,fun s hs=>?_⟩,?_⟩;·unfold Zee;exact ZwP (Zv1 _ _) (by simp)
 ·have hlt:=Zan ho;simp only[Zwy]at hlt;rw[hL0 i hlt]at hL;cases hL
 ·refine hun _ s fun j oj hj hd=>?_;have:=hs j oj hj hd;have hlt:=Zan hj;simp only[Zwy]at hlt;rw[hL0 j hlt]at this;cases this
 ·refine hst _ _ _ w _ (fun _ _=>rfl) (h0 _ fun j hj=>?_) (ZuK _ w).drew;have:∃o,l.toArray[j]?=some o:=by unfold spB at hN;have:=Zve.1 hN j hj;cases ho:l.toArray[j]? with
   |none=>rw[ho]at this;cases this|some o=>exact⟨o,rfl⟩
  obtain⟨o,ho⟩:=this;have hlt:=Zan ho;simp only[Zwy]at hlt;exact hL0 j hlt
theorem ZkK{id:Nat} {Q:Exit->Act->World->Prop} {a0:Act} {w:World} {l:List Oper} (w0:World)(C:World->Prop)(sp:List Nat)(mk:Nat->Gh->Value)(J:(Nat->Bool)->(Nat->Gh)->World->Prop)(af:(Nat->Gh)->Act)(hm:P.follows .mixedOrders=true)(hB:Zam l.toArray=true)(hB':∀g,Zam (mixL sp mk g 0 l).toArray=true)(hS:Region.noSelect l.toArray=true)(hN:spB l.toArray sp=true)(hC0:C w)(hCs:∀x x',C x->Below x.heap.size x x'->C x')(hCw:∀x,C x->Below w0.heap.size w0 x)(h0:∀L,(∀j∈sp,L j=false)->J L (fun _=>Gh.zero) w)(hst:∀L L' g x x',(∀j∈sp,L' j=L j)->J L g x->Below x.heap.size x x'->J L' g x')(hq:∀g u,C u->(∀(x:Grew u)(b o:Nat),b<u.heap.size->x.val.cell? ⟨b,o,none⟩=u.cell? ⟨b,o,none⟩)->Hid (∀x:Grew u,Below w0.heap.size w0 x.val)->Hid (∀x:Grew u,C x.val)->wpQuiet P (mixL sp mk g 0 l).toArray (fun w'=>∃x:Grew u,w'=x.val) (fun a'=>a'=af g) (mixL sp mk g 0 l) a0)(hind:∀j∈sp,∀g h,Zap (Zas l.toArray j 0 l []) 0 (af g).tmps.toList=Zap (Zas l.toArray j 0 l []) 0 (af (upd g j h)).tmps.toList)(hsp:∀j∈sp,∀o,l[j]?=some o->∀(L:Nat->Bool)(g:Nat->Gh)(x:World),J L g x->C x->Below w0.heap.size w0 x->L j=false->(∀e∈o.after,Region.binds .any e=true->L e.on=true)->(∀(i:Nat)(o:Oper),l[i]?=some o->L i=true->∀e∈o.after,Region.binds .any e=true->L e.on=true)->ZbU P (fun v x'=>C x'/\((o.dst=none/\J (ZaT L j) g x')∨∃h,v=mk j h/\J (ZaT L j) (upd g j h) x')) ((execOp (af g).eval o).run P x))(hend:∀g x,J (fun _=>true) g x->C x->Below w0.heap.size w0 x->Q .normal (af g) x):(Code.region id l.toArray true).wp P Q a0 w:=wp_region_any hm (Zc9 w0 C sp mk J af hB hB' hS hN hC0 hCs hCw h0 hst hq hind hsp hend)
end
section
variable {P:Program}
theorem ZkL{f:Operand->Value} {o:Oper} {t:TypeId} {p:Operand} {b off:Nat} {n:Int} {x:World} (ho:o.op=.load t p)(hag:Sem.run P (isAgg t) x=.ok false x)(hp:f p=.pointer (some ⟨b,off,none⟩))(hc:x.cell? ⟨b,off,none⟩=some (.int .i64 n)):(execOp f o).run P x=.ok (.value (.int .i64 n)) x:=by unfold execOp;rw[ho];simp[go_sem,hp,hc,hag]
theorem ZkM{f:Operand->Value} {o:Oper} {t:TypeId} {p q:Operand} {b off:Nat} {n:Int} {u:Value} {x:World} (ho:o.op=.store t p q)(hsz:Sem.run P (sizeOf t) x=.ok 1 x)(hp:f p=.pointer (some ⟨b,off,none⟩))(hq:f q=.int .i64 n)(hc:x.cell? ⟨b,off,none⟩=some u)(hf:x.frozen? ⟨b,off,none⟩=false):(execOp f o).run P x=.ok .skip (x.setCell ⟨b,off,none⟩ (.int .i64 n)):=by unfold execOp;rw[ho];simp[go_sem,hp,hq,hc,hf,hsz]
def mkMAS(c n:Nat):Nat->Gh->Value:=fun j h=>if j=c then .slice (some ⟨h.b,0,none⟩) n n else .pointer (some ⟨h.b,0,none⟩)
theorem Zqz{id:Nat} {Q:Exit->Act->World->Prop} {a0:Act} {w:World} {l:List Oper} (w0:World)(c m k n:Nat)(z1 z2:Obj)(y2:Gh->Obj)(af:(Nat->Gh)->Act)(hm:P.follows .mixedOrders=true)(hB:Zam l.toArray=true)(hB':∀g,Zam (mixL [c,m,k] (mkMAS c n) g 0 l).toArray=true)(hS:Region.noSelect l.toArray=true)(hN:spB l.toArray [c,m,k]=true)(hne:c≠m/\c≠k/\m≠k)(hkd:(match l[k]? with|some o=>o.dst.isNone|none=>false)=true)(hcl:∀L:Nat->Bool,(∀(i:Nat)(o:Oper),l[i]?=some o->L i=true->∀e∈o.after,Region.binds .any e=true->L e.on=true)->∀o,l[k]?=some o->(∀e∈o.after,Region.binds .any e=true->L e.on=true)->L c=true/\L m=true)(hw:Below w0.heap.size w0 w)(hal1:∀o,l[c]?=some o->∀(g:Nat->Gh) (x:World),Below w.heap.size w x->(execOp (af g).eval o).run P x=.ok (.value (.slice (some ⟨x.heap.size,0,none⟩) n n)) (x.alloc z1))(hal2:∀o,l[m]?=some o->∀(g:Nat->Gh) (x:World),(execOp (af g).eval o).run P x=.ok (.value (.pointer (some ⟨x.heap.size,0,none⟩))) (x.alloc z2))(hq:∀g u,Below w.heap.size w u->(∀(x:Grew u)(b o:Nat),b<u.heap.size->x.val.cell? ⟨b,o,none⟩=u.cell? ⟨b,o,none⟩)->Hid (∀x:Grew u,Below w0.heap.size w0 x.val)->Hid (∀x:Grew u,Below w.heap.size w x.val)->wpQuiet P (mixL [c,m,k] (mkMAS c n) g 0 l).toArray (fun w'=>∃x:Grew u,w'=x.val) (fun a'=>a'=af g) (mixL [c,m,k] (mkMAS c n) g 0 l) a0)(hind:∀j∈[c,m,k],∀g h,Zap (Zas l.toArray j 0 l []) 0 (af g).tmps.toList=Zap (Zas l.toArray j 0 l []) 0 (af (upd g j h)).tmps.toList)(hs:∀o,l[k]?=some o->∀(g:Nat->Gh)(x:World),Below w.heap.size w x->x.heap[(g m).b]?=some z2->∃x',(execOp (af g).eval o).run P x=.ok .skip x'/\OnlyB (g m).b x x'/\x'.heap[(g m).b]?=some (y2 (g c)))(hend:∀(g:Nat->Gh)(x:World),w.heap.size<=(g c).b->w.heap.size<=(g m).b->(g c).b≠(g m).b->Below w.heap.size w x->Below w0.heap.size w0 x->x.heap[(g c).b]?=some z1->x.heap[(g m).b]?=some (y2 (g c))->Q .normal (af g) x):(Code.region id l.toArray true).wp P Q a0 w:=by
 obtain⟨n1,n2,n3⟩:=hne;refine ZkK w0 (fun x=>Below w.heap.size w x) [c,m,k] (mkMAS c n) (fun L g x=>(L c=false->L k=false)/\(L m=false->L k=false)/\(L c=true->w.heap.size<=(g c).b/\x.heap[(g c).b]?=some z1)/\(L m=true->w.heap.size<=(g m).b/\x.heap[(g m).b]?=some (if L k=true then y2 (g c)else z2))/\(L c=true->L m=true->(g c).b≠(g m).b)) af hm hB hB' hS hN (ZuK _ _) (fun x x' h hb=>h.trans (hb.mono h.size)) (fun x h=>via hw h) ?_ ?_ hq hind ?_ ?_
 ·intro L h;have a1:=h c (by simp);have a2:=h m (by simp);have a3:=h k (by simp);refine⟨fun _=>a3,fun _=>a3,fun h=>?_,fun h=>?_,fun h=>?_⟩;·rw[a1]at h;cases h
  ·rw[a2]at h;cases h
  ·rw[a1]at h;cases h
 ·rintro L L' g x x' h ⟨h1,h2,h3,h4,h5⟩ hb;rw[h c (by simp),h m (by simp),h k (by simp)];exact⟨h1,h2,fun hl=>⟨(h3 hl).1,Zw hb (h3 hl).2⟩,fun hl=>⟨(h4 hl).1,Zw hb (h4 hl).2⟩,h5⟩
 ·intro j hj o ho L g x ⟨h1,h2,h3,h4,h5⟩ hbx hb0 hL hafter hclo;simp only[Zwi,Zwt,or_false]at hj;rcases hj with rfl|rfl|rfl
  ·have hk:=h1 hL;refine Zax (hal1 o ho g x hbx) ⟨ZjW hbx _,.inr ⟨{Gh.zero with b:=x.heap.size},by unfold mkMAS;rw[if_pos rfl],?_,?_,?_,?_,?_⟩⟩;·intro h;rw[Za0]at h;cases h
   ·intro h;rw[ZJ (Ne.symm n2)];exact hk
   ·intro _;rw[Zad];exact⟨hbx.size,Zz _ _ rfl⟩
   ·intro h;rw[ZJ (Ne.symm n1)]at h;rw[ZJ (Ne.symm n2),upd_ne (Ne.symm n1),hk];have:=h4 h;rw[hk]at this;exact⟨this.1,Zy this.2 _⟩
   ·intro _ h;rw[ZJ (Ne.symm n1)]at h;rw[Zad,upd_ne (Ne.symm n1)];have:=ZI (h4 h).2;dsimp only;omega
  ·have hk:=h2 hL;refine Zax (hal2 o ho g x) ⟨ZjW hbx _,.inr ⟨{Gh.zero with b:=x.heap.size},by unfold mkMAS;rw[if_neg (Ne.symm n1)],?_,?_,?_,?_,?_⟩⟩;·intro h;rw[ZJ (Ne.symm n3)];exact hk
   ·intro h;rw[Za0]at h;cases h
   ·intro h;rw[ZJ n1]at h;rw[upd_ne n1];exact⟨(h3 h).1,Zy (h3 h).2 _⟩
   ·intro _;rw[Zad,ZJ (Ne.symm n3),hk];exact⟨hbx.size,Zz _ _ rfl⟩
   ·intro h _;rw[ZJ n1]at h;rw[Zad,upd_ne n1];have:=ZI (h3 h).2;dsimp only;omega
  ·obtain⟨lc,lm⟩:=hcl L hclo o ho hafter;obtain⟨p1,p2⟩:=h4 lm;rw[if_neg (by rw[hL];decide)]at p2;obtain⟨x',r1,r2,r3⟩:=hs o ho g x hbx p2;rw[ho]at hkd;refine ZcC r1 ⟨hbx.trans (r2.below _ p1),.inl ⟨by simpa using hkd,?_,?_,?_,?_,?_⟩⟩;·intro h;rw[ZJ n2,lc]at h;cases h
   ·intro h;rw[ZJ n3,lm]at h;cases h
   ·intro _;exact⟨(h3 lc).1,r2.keep (h5 lc lm) (h3 lc).2⟩
   ·intro _;rw[Za0,if_pos rfl];exact⟨p1,r3⟩
   ·intro _ _;exact h5 lc lm
 ·rintro g x ⟨h1,h2,h3,h4,h5⟩ hbx hb0;have:=h4 rfl;rw[if_pos rfl]at this;exact hend g x (h3 rfl).1 this.1 (h5 rfl rfl) hbx hb0 (h3 rfl).2 this.2
theorem ZqA{id:Nat} {Q:Exit->Act->World->Prop} {a0:Act} {w:World} {l:List Oper} (w0:World)(p q k r:Nat)(b:Nat)(vp vq:Value)(zz:Bool->Bool->Obj)(af:(Nat->Gh)->Act)(hm:P.follows .mixedOrders=true)(hB:Zam l.toArray=true)(hB':∀g,Zam (mixL [p,q,k,r] (fun j _=>if j=p then vp else vq) g 0 l).toArray=true)(hS:Region.noSelect l.toArray=true)(hN:spB l.toArray [p,q,k,r]=true)(hne:p≠q/\p≠k/\p≠r/\q≠k/\q≠r/\k≠r)(hkd:(match l[k]?,l[r]? with|some o,some o'=>o.dst.isNone&&o'.dst.isNone|_,_=>false)=true)(hcl:∀L:Nat->Bool,(∀(i:Nat)(o:Oper),l[i]?=some o->L i=true->∀e∈o.after,Region.binds .any e=true->L e.on=true)->((L k=true->L p=true/\L q=true)/\(L r=true->L p=true/\L q=true))/\(∀o,l[k]?=some o->(∀e∈o.after,Region.binds .any e=true->L e.on=true)->L p=true/\L q=true)/\(∀o,l[r]?=some o->(∀e∈o.after,Region.binds .any e=true->L e.on=true)->L p=true/\L q=true))(hw:Below w0.heap.size w0 w)(hb:w0.heap.size<=b)(hb0:w.heap[b]?=some (zz false false))(hp:∀o,l[p]?=some o->∀(g:Nat->Gh)(x:World),x.heap[b]?=some (zz false false)->(execOp (af g).eval o).run P x=.ok (.value vp) x)(hqq:∀o,l[q]?=some o->∀(g:Nat->Gh)(x:World),x.heap[b]?=some (zz false false)->(execOp (af g).eval o).run P x=.ok (.value vq) x)(hq:∀g u,w.grownBy u (some b)->(∀(x:Grew u)(b o:Nat),b<u.heap.size->x.val.cell? ⟨b,o,none⟩=u.cell? ⟨b,o,none⟩)->Hid (∀x:Grew u,Below w0.heap.size w0 x.val)->Hid (∀x:Grew u,w.grownBy x.val (some b))->wpQuiet P (mixL [p,q,k,r] (fun j _=>if j=p then vp else vq) g 0 l).toArray (fun w'=>∃x:Grew u,w'=x.val) (fun a'=>a'=af g) (mixL [p,q,k,r] (fun j _=>if j=p then vp else vq) g 0 l) a0)(hind:∀j∈[p,q,k,r],∀g h,Zap (Zas l.toArray j 0 l []) 0 (af g).tmps.toList=Zap (Zas l.toArray j 0 l []) 0 (af (upd g j h)).tmps.toList)(hs1:∀o,l[k]?=some o->∀(f:Bool)(g:Nat->Gh)(x:World),x.heap[b]?=some (zz false f)->∃x',(execOp (af g).eval o).run P x=.ok .skip x'/\OnlyB b x x'/\x'.heap[b]?=some (zz true f))(hs2:∀o,l[r]?=some o->∀(f:Bool)(g:Nat->Gh)(x:World),x.heap[b]?=some (zz f false)->∃x',(execOp (af g).eval o).run P x=.ok .skip x'/\OnlyB b x x'/\x'.heap[b]?=some (zz f true))(hend:∀(g:Nat->Gh)(x:World),w.grownBy x (some b)->Below w0.heap.size w0 x->x.heap[b]?=some (zz true true)->Q .normal (af g) x):(Code.region id l.toArray true).wp P Q a0 w:=by
 obtain⟨n1,n2,n3,n4,n5,n6⟩:=hne;have hOB:∀{x x':World},OnlyB b x x'->x.grownBy x' (some b):=fun {x x'} h=>⟨(h.below 0 (Zxa _)).os,(h.below 0 (Zxa _)).tape,(h.below 0 (Zxa _)).output,(h.below 0 (Zxa _)).size,fun i _ hi=>h.other i fun e=>hi (by rw[e])⟩;have hgt:∀{x x' y:World},x.grownBy x' (some b)->x'.grownBy y (some b)->x.grownBy y (some b):=fun h k=>World.grownBy.trans h k;refine ZkK w0 (fun x=>w.grownBy x (some b)) [p,q,k,r] _ (fun L g x=>x.heap[b]?=some (zz (L k) (L r))) af hm hB hB' hS hN ⟨rfl,rfl,rfl,ZwO _,fun _ _ _=>rfl⟩ (fun x x' h hb=>hgt h ⟨hb.os,hb.tape,hb.output,hb.size,fun k hk _=>hb.block k hk⟩) (fun x h=>Zp1 hw h fun i e=>by cases e;exact hb) ?_ ?_ hq hind ?_ ?_;·intro L h;rw[h k (by simp),h r (by simp)];exact hb0
 ·rintro L L' g x x' h hx hbx;rw[h k (by simp),h r (by simp)];exact Zw hbx hx
 ·intro j hj o ho L g x hx hC hB0 hL hafter hclo;obtain⟨⟨c1,c2⟩,c3,c4⟩:=hcl L hclo;simp only[Zwi,Zwt,or_false]at hj;rcases hj with rfl|rfl|rfl|rfl
  ·have hk:L k=false:=by cases h:L k;rfl;have:=(c1 h).1;rw[hL]at this;cases this
   have hr:L r=false:=by cases h:L r;rfl;have:=(c2 h).1;rw[hL]at this;cases this
   rw[hk,hr]at hx;refine Zax (hp o ho g x hx) ⟨hC,.inr ⟨Gh.zero,by rw[if_pos rfl],?_⟩⟩;rw[ZJ (Ne.symm n2),ZJ (Ne.symm n3),hk,hr];exact hx
  ·have hk:L k=false:=by cases h:L k;rfl;have:=(c1 h).2;rw[hL]at this;cases this
   have hr:L r=false:=by cases h:L r;rfl;have:=(c2 h).2;rw[hL]at this;cases this
   rw[hk,hr]at hx;refine Zax (hqq o ho g x hx) ⟨hC,.inr ⟨Gh.zero,by rw[if_neg (Ne.symm n1)],?_⟩⟩;rw[ZJ (Ne.symm n4),ZJ (Ne.symm n5),hk,hr];exact hx
  ·rw[hL]at hx;obtain⟨x',r1,r2,r3⟩:=hs1 o ho _ g x hx;refine ZcC r1 ⟨hgt hC (hOB r2),.inl ⟨?_,?_⟩⟩
   ·rw[ho]at hkd;split at hkd;·rename_i e1 e2;cases e1;simp only[ZuM]at hkd;simpa using hkd.1
    ·cases hkd
   ·rw[Za0,ZJ (Ne.symm n6)];exact r3
  ·rw[hL]at hx;obtain⟨x',r1,r2,r3⟩:=hs2 o ho _ g x hx;refine ZcC r1 ⟨hgt hC (hOB r2),.inl ⟨?_,?_⟩⟩
   ·rw[ho]at hkd;split at hkd;·rename_i e1 e2;cases e2;simp only[ZuM]at hkd;simpa using hkd.2
    ·cases hkd
   ·rw[Za0,ZJ n6];exact r3
 ·intro g x hx hC hB0;exact hend g x hC hB0 hx
end
section
variable {P:Program}
def Za1(w0 w:World)(v:Value)(x:World):Prop:=Below w0.heap.size w0 x/\w.heap.size<=x.heap.size/\∀k,k<w.heap.size->some k≠v.ownBlock->x.heap[k]?=w.heap[k]?
theorem Za1.refl{w0 w:World} {v:Value} (h:Below w0.heap.size w0 w):Za1 w0 w v w:=⟨h,ZwO _,fun _ _ _=>rfl⟩
theorem Za1.below{w0 w x x':World} {v:Value} (h:Za1 w0 w v x)(hb:Below x.heap.size x x'):Za1 w0 w v x':=⟨via h.1 hb,ZwP h.2.1 hb.size,fun k hk hv=>(hb.block k (ZwS hk h.2.1)).trans (h.2.2 k hk hv)⟩
theorem Za1.grown{w0 w x x':World} {v:Value} {row:Option Nat} (h:Za1 w0 w v x)(hw:w0.heap.size<=w.heap.size)(hv0:∀r,v.ownBlock=some r->w0.heap.size<=r)(hg:x.grownBy x' row)(hr:∀r,row=some r->w.heap.size<=r∨v.ownBlock=some r):Za1 w0 w v x':=⟨ZW h.1 hg fun b e=>by
  rcases hr b e with h1|h1;·omega
  ·exact hv0 b h1,ZwP h.2.1 hg.size,fun k hk hv=>(hg.block k (ZwS hk h.2.1) fun e=>by
   rcases hr k e.symm with h1|h1;·omega
   ·exact hv h1.symm).trans (h.2.2 k hk hv)⟩
def mkR6(m0 c m1 q1 m2 n nq:Nat):Nat->Gh->Value:=fun j g=>if j=m0 then .slice (some ⟨g.b,0,none⟩) 0 0 else if j=c then .slice g.a1 n g.c1 else if j=m1 then .slice (some ⟨g.b,0,none⟩) 1 1 else if j=m2 then .slice (some ⟨g.b,0,none⟩) 1 1 else if j=q1 then .slice g.a1 (n+1) g.c1 else .slice g.a1 (nq+1) g.c1
theorem ZqB{Q:Exit->Act->World->Prop} {a0:Act} {w:World} {l:List Oper} (w0:World)(m0 c m1 q1 m2 q2:Nat)(n nq:Nat)(e1:TypeId)(xs ys:List Value)(z0 z1:Obj)(z2:Gh->Obj)(row:Gh->List Value)(bq:Nat)(te:TypeId)(v:Value)(qs:List Value)(af:(Nat->Gh)->Act)(hB:Zam l.toArray=true)(hB':∀g,Zam (mixL [m0,c,m1,q1,m2,q2] (mkR6 m0 c m1 q1 m2 n nq) g 0 l).toArray=true)(hS:Region.noSelect l.toArray=true)(hN:spB l.toArray [m0,c,m1,q1,m2,q2]=true)(hne:m0≠c/\m0≠m1/\m0≠q1/\m0≠m2/\m0≠q2/\c≠m1/\c≠q1/\c≠m2/\c≠q2/\m1≠q1/\m1≠m2/\m1≠q2/\q1≠m2/\q1≠q2/\m2≠q2)(hd1:∀L:Nat->Bool,(∀(i:Nat)(o:Oper),l[i]?=some o->L i=true->∀e∈o.after,Region.binds .any e=true->L e.on=true)->(∀o,l[q1]?=some o->(∀e∈o.after,Region.binds .any e=true->L e.on=true)->L c=true/\L m1=true)/\(∀o,l[m2]?=some o->(∀e∈o.after,Region.binds .any e=true->L e.on=true)->L q1=true)/\(∀o,l[q2]?=some o->(∀e∈o.after,Region.binds .any e=true->L e.on=true)->L m2=true))(hw:Below w0.heap.size w0 w)(hv0:∀r,v.ownBlock=some r->w0.heap.size<=r)(hown:w.ownsRow bq te 1 v nq qs)(hal0:∀o,l[m0]?=some o->∀(g:Nat->Gh) (x:World),(execOp (af g).eval o).run P x=.ok (.value (.slice (some ⟨x.heap.size,0,none⟩) 0 0)) (x.alloc z0))(hcl:∀o,l[c]?=some o->∀(g:Nat->Gh)(x:World),Za1 w0 w v x->∃v' x',(execOp (af g).eval o).run P x=.ok (.value v') x'/\x'.ownsRow w.heap.size e1 1 v' n xs/\Below x.heap.size x x')(hal1:∀o,l[m1]?=some o->∀(g:Nat->Gh) (x:World),(execOp (af g).eval o).run P x=.ok (.value (.slice (some ⟨x.heap.size,0,none⟩) 1 1)) (x.alloc z1))(hap1:∀o,l[q1]?=some o->∀(g:Nat->Gh) (x:World),Za1 w0 w v x->x.ownsRow w.heap.size e1 1 (.slice (g c).a1 n (g c).c1) n xs->x.heap[(g m1).b]?=some z1->∃v' x',(execOp (af g).eval o).run P x=.ok (.value v') x'/\x'.ownsRow w.heap.size e1 1 v' (n+1) (xs++ys)/\x.grownBy x' (Value.slice (g c).a1 n (g c).c1).ownBlock)(hal2:∀o,l[m2]?=some o->∀(g:Nat->Gh) (x:World),(execOp (af g).eval o).run P x=.ok (.value (.slice (some ⟨x.heap.size,0,none⟩) 1 1)) (x.alloc (z2 (g q1))))(hap2:∀o,l[q2]?=some o->∀(g:Nat->Gh) (x:World),Za1 w0 w v x->x.ownsRow bq te 1 v nq qs->x.heap[(g m2).b]?=some (z2 (g q1))->∃v' x',(execOp (af g).eval o).run P x=.ok (.value v') x'/\x'.ownsRow bq te 1 v' (nq+1) (qs++row (g q1))/\x.grownBy x' v.ownBlock/\(v'.ownBlock=v.ownBlock∨v'.ownBlock=some x.heap.size))(hq:∀g u,Za1 w0 w v u->(∀(x:Grew u)(b o:Nat),b<u.heap.size->x.val.cell? ⟨b,o,none⟩=u.cell? ⟨b,o,none⟩)->Hid (∀x:Grew u,Below w0.heap.size w0 x.val)->Hid (∀x:Grew u,Za1 w0 w v x.val)->wpQuiet P (mixL [m0,c,m1,q1,m2,q2] (mkR6 m0 c m1 q1 m2 n nq) g 0 l).toArray (fun w'=>∃x:Grew u,w'=x.val) (fun a'=>a'=af g) (mixL [m0,c,m1,q1,m2,q2] (mkR6 m0 c m1 q1 m2 n nq) g 0 l) a0)(hind:∀j∈[m0,c,m1,q1,m2,q2],∀g h,Zap (Zas l.toArray j 0 l []) 0 (af g).tmps.toList=Zap (Zas l.toArray j 0 l []) 0 (af (upd g j h)).tmps.toList)(hend:∀(g:Nat->Gh) (x:World),Za1 w0 w v x->x.ownsRow w.heap.size e1 1 (.slice (g q1).a1 (n+1) (g q1).c1) (n+1) (xs++ys)->x.ownsRow bq te 1 (.slice (g q2).a1 (nq+1) (g q2).c1) (nq+1) (qs++row (g q1))->((Value.slice (g q2).a1 (nq+1) (g q2).c1).ownBlock=v.ownBlock∨∃r,(Value.slice (g q2).a1 (nq+1) (g q2).c1).ownBlock=some r/\w.heap.size<=r/\some r≠(Value.slice (g q1).a1 (n+1) (g q1).c1).ownBlock)->Q .normal (af g) x):wpAny P .any l.toArray Q l.toArray.size (Array.replicate l.toArray.size false) a0 {w with drawn:=w.drawn+1}:=by
 obtain⟨o1,o2,o3,o4,o5,n1,n2,n3,n4,n5,n6,n7,n8,n9,n10⟩:=hne;have hvb:∀r,v.ownBlock=some r->r<w.heap.size:=fun r e=>(hown.lt r e).2;refine Zc9 w0 (Za1 w0 w v) [m0,c,m1,q1,m2,q2] (mkR6 m0 c m1 q1 m2 n nq) (fun L g x=>((L q1=true->L c=true/\L m1=true)/\(L m2=true->L q1=true)/\(L q2=true->L m2=true))/\(L q1=false->L c=true->x.ownsRow w.heap.size e1 1 (.slice (g c).a1 n (g c).c1) n xs)/\(L q1=false->L m1=true->w.heap.size<=(g m1).b/\x.heap[(g m1).b]?=some z1)/\(L q1=true->x.ownsRow w.heap.size e1 1 (.slice (g q1).a1 (n+1) (g q1).c1) (n+1) (xs++ys))/\(L q2=false->L m2=true->w.heap.size<=(g m2).b/\x.heap[(g m2).b]?=some (z2 (g q1)))/\(L q2=false->x.ownsRow bq te 1 v nq qs)/\(L q2=true->x.ownsRow bq te 1 (.slice (g q2).a1 (nq+1) (g q2).c1) (nq+1) (qs++row (g q1))/\((Value.slice (g q2).a1 (nq+1) (g q2).c1).ownBlock=v.ownBlock∨∃r,(Value.slice (g q2).a1 (nq+1) (g q2).c1).ownBlock=some r/\w.heap.size<=r/\some r≠(Value.slice (g q1).a1 (n+1) (g q1).c1).ownBlock))) af hB hB' hS hN (Za1.refl hw) (fun x x' h hb=>h.below hb) (fun x h=>h.1) ?_ ?_ hq hind ?_ ?_;·intro L h;have a1:=h c (by simp);have a2:=h m1 (by simp);have a3:=h q1 (by simp);have a4:=h m2 (by simp);have a5:=h q2 (by simp);rw[a1,a2,a3,a4,a5];exact⟨⟨(fun h=>by cases h),(fun h=>by cases h),(fun h=>by cases h)⟩,(fun _ h=>by cases h),(fun _ h=>by cases h),(fun h=>by cases h),(fun _ h=>by cases h),fun _=>hown,(fun h=>by cases h)⟩
 ·rintro L L' g x x' h ⟨j0,j1,j2,j3,j4,j5,j6⟩ hb;have a1:=h c (by simp);have a2:=h m1 (by simp);have a3:=h q1 (by simp);have a4:=h m2 (by simp);have a5:=h q2 (by simp);rw[a1,a2,a3,a4,a5];exact⟨j0,fun h h'=>ZN (j1 h h') hb,fun h h'=>⟨(j2 h h').1,Zw hb (j2 h h').2⟩,fun h=>ZN (j3 h) hb,fun h h'=>⟨(j4 h h').1,Zw hb (j4 h h').2⟩,fun h=>ZN (j5 h) hb,fun h=>⟨ZN (j6 h).1 hb,(j6 h).2⟩⟩
 ·intro j hj o ho L g x ⟨⟨k1,k2,k3⟩,j1,j2,j3,j4,j5,j6⟩ hC hb0 hL hafter hclo;obtain⟨d1,d2,d3⟩:=hd1 L hclo;have nq1:L q1=false->L m2=false/\L q2=false:=fun h=>by
   have a:L m2=false:=by cases hh:L m2 with|false=>rfl|true=>rw[k2 hh]at h;cases h
   refine⟨a,?_⟩;cases hh:L q2 with|false=>rfl|true=>rw[k3 hh]at a;cases a
  have nm2:L m2=false->L q2=false:=fun h=>by cases hh:L q2 with
   |false=>rfl|true=>rw[k3 hh]at h;cases h
  have nc:L c=false->L q1=false:=fun h=>by cases hh:L q1 with|false=>rfl|true=>rw[(k1 hh).1]at h;cases h
  have nm1:L m1=false->L q1=false:=fun h=>by cases hh:L q1 with
   |false=>rfl|true=>rw[(k1 hh).2]at h;cases h
  simp only[Zwi,Zwt,or_false]at hj;rcases hj with rfl|rfl|rfl|rfl|rfl|rfl;·refine Zax (hal0 o ho g x) ⟨hC.below (ZC _ _),.inr ⟨{Gh.zero with b:=x.heap.size},by simp[mkR6],?_⟩⟩;rw[ZJ (Ne.symm o1),ZJ (Ne.symm o2),ZJ (Ne.symm o3),ZJ (Ne.symm o4),ZJ (Ne.symm o5),upd_ne (Ne.symm o1),upd_ne (Ne.symm o2),upd_ne (Ne.symm o3),upd_ne (Ne.symm o4),upd_ne (Ne.symm o5)];have hb:=ZC x z0;exact⟨⟨k1,k2,k3⟩,fun h h'=>ZN (j1 h h') hb,fun h h'=>⟨(j2 h h').1,Zw hb (j2 h h').2⟩,fun h=>ZN (j3 h) hb,fun h h'=>⟨(j4 h h').1,Zw hb (j4 h h').2⟩,fun h=>ZN (j5 h) hb,fun h=>⟨ZN (j6 h).1 hb,(j6 h).2⟩⟩
  ·have l1:=nc hL;obtain⟨l2,l3⟩:=nq1 l1;obtain⟨v',x',r1,p1,p2⟩:=hcl o ho g x hC;obtain⟨A,cp,rfl⟩:=Zac p1;refine Zax r1 ⟨hC.below p2,.inr ⟨{Gh.zero with a1:=A,c1:=cp},by simp[mkR6,Ne.symm o1],?_⟩⟩;rw[Za0,ZJ (Ne.symm n1),ZJ (Ne.symm n2),ZJ (Ne.symm n3),ZJ (Ne.symm n4),Zad,upd_ne (Ne.symm n1),upd_ne (Ne.symm n2),upd_ne (Ne.symm n3),upd_ne (Ne.symm n4),l1,l2,l3];exact⟨⟨(fun h=>by cases h),(fun h=>by cases h),(fun h=>by cases h)⟩,fun _ _=>p1,fun h h'=>⟨(j2 l1 h').1,Zw p2 (j2 l1 h').2⟩,(fun h=>by cases h),(fun _ h=>by cases h),fun _=>ZN (j5 l3) p2,(fun h=>by cases h)⟩
  ·have l1:=nm1 hL;obtain⟨l2,l3⟩:=nq1 l1;refine Zax (hal1 o ho g x) ⟨hC.below (ZC _ _),.inr ⟨{Gh.zero with b:=x.heap.size},by simp[mkR6,Ne.symm n1,Ne.symm o2],?_⟩⟩;rw[Za0,ZJ n1,ZJ (Ne.symm n5),ZJ (Ne.symm n6),ZJ (Ne.symm n7),Zad,upd_ne n1,upd_ne (Ne.symm n5),upd_ne (Ne.symm n6),upd_ne (Ne.symm n7),l1,l2,l3];exact⟨⟨(fun h=>by cases h),(fun h=>by cases h),(fun h=>by cases h)⟩,fun _ h=>ZN (j1 l1 h) (ZC _ _),fun _ _=>⟨hC.2.1,Zz _ _ rfl⟩,(fun h=>by cases h),(fun _ h=>by cases h),fun _=>ZN (j5 l3) (ZC _ _),(fun h=>by cases h)⟩
  ·obtain⟨lc,lm⟩:=d1 o ho hafter;obtain⟨l2,l3⟩:=nq1 hL;have hown1:=j1 hL lc;obtain⟨v',x',r1,r2,r3⟩:=hap1 o ho g x hC hown1 (j2 hL lm).2;obtain⟨gB,cap,rfl⟩:=Zac r2;have hr:∀r,(Value.slice (g c).a1 n (g c).c1).ownBlock=some r->w.heap.size<=r:=fun r e=>(hown1.lt r e).1;refine Zax r1 ⟨hC.grown (by have:=hw.size;exact this) hv0 r3 (fun r e=>.inl (hr r e)),.inr ⟨{Gh.zero with a1:=gB,c1:=cap},by simp[mkR6,Ne.symm n2,Ne.symm n5,n8,Ne.symm o3],?_⟩⟩;rw[Za0,ZJ n2,ZJ n5,ZJ (Ne.symm n8),ZJ (Ne.symm n9),Zad,upd_ne n2,upd_ne n5,upd_ne (Ne.symm n8),upd_ne (Ne.symm n9),l2,l3];refine⟨⟨fun _=>⟨lc,lm⟩,(fun h=>by cases h),(fun h=>by cases h)⟩,(fun h=>by cases h),(fun h=>by cases h),fun _=>r2,(fun _ h=>by cases h),fun _=>Zaj (j5 l3) fun r e=>r3.block r ?_ ?_,(fun h=>by cases h)⟩;·exact ZwS (hvb r e) hC.2.1
   ·intro e';have:=hr r e'.symm;have:=hvb r e;omega
  ·have l1:=d2 o ho hafter;have l3:=nm2 hL;refine Zax (hal2 o ho g x) ⟨hC.below (ZC _ _),.inr ⟨{Gh.zero with b:=x.heap.size},by simp[mkR6,Ne.symm n3,Ne.symm n6,Ne.symm o4],?_⟩⟩;rw[Za0,ZJ n3,ZJ n6,ZJ n8,ZJ (Ne.symm n10),Zad,upd_ne n3,upd_ne n6,upd_ne n8,upd_ne (Ne.symm n10),l1,l3];exact⟨⟨fun _=>k1 l1,fun _=>rfl,(fun h=>by cases h)⟩,(fun h=>by cases h),(fun h=>by cases h),fun _=>ZN (j3 l1) (ZC _ _),fun _ _=>⟨hC.2.1,Zz _ _ rfl⟩,fun _=>ZN (j5 l3) (ZC _ _),(fun h=>by cases h)⟩
  ·have lm:=d3 o ho hafter;have l1:=k2 lm;obtain⟨v',x',r1,r2,r3,r4⟩:=hap2 o ho g x hC (j5 hL) (j4 hL lm).2;obtain⟨gB,cap,rfl⟩:=Zac r2;have hown1:=j3 l1;refine Zax r1 ⟨hC.grown hw.size hv0 r3 (fun r e=>.inr e),.inr ⟨{Gh.zero with a1:=gB,c1:=cap},by simp[mkR6,Ne.symm n4,Ne.symm n7,Ne.symm n9,Ne.symm n10,Ne.symm o5],?_⟩⟩;rw[Za0,ZJ n4,ZJ n7,ZJ n9,ZJ n10,Zad,upd_ne n4,upd_ne n7,upd_ne n9,upd_ne n10,l1,lm];refine⟨⟨fun _=>k1 l1,fun _=>rfl,fun _=>rfl⟩,(fun h=>by cases h),(fun h=>by cases h),fun _=>Zaj hown1 fun r e=>r3.block r ?_ ?_,(fun h=>by cases h),(fun h=>by cases h),fun _=>⟨r2,?_⟩⟩;·exact(hown1.lt r e).2
   ·intro e';have:=(hown1.lt r e).1;have:=hvb r e'.symm;omega
   ·rcases r4 with h|h;·exact .inl h
    ·refine .inr ⟨_,h,hC.2.1,fun e=>?_⟩;have:=(hown1.lt _ e.symm).2;omega
 ·rintro g x ⟨-,-,-,j3,-,-,j6⟩ hC hb0;exact hend g x hC (j3 rfl) (j6 rfl).1 (j6 rfl).2
theorem ZqC{f:Operand->Value} {o:Oper} {x:World} (s y:Operand)(t e:TypeId)(i:TypeInfo)(z0:Value)(bytes base b c n:Nat) {A:Option Addr} {l:List Int} (hn:l.length=n)(ho:o.op=.call {callee:=.builtin .append,args:=#[s,y],argTypes:=#[t,t]})(hs:f s=.slice (some ⟨b,0,none⟩) 0 0)(hy:f y=.slice A n c)(ht:P.underlying t=some (.slice e))(hi:P.info? e=some i)(hz:i.zero=some z0)(hsize:i.size=1)(hby:i.bytes=bytes)(hzs:z0.cells.size=1)(hbb:bytes<=1000)(hat:At 1 Zc x A l)(hne:0<l.length)(hl:l.length<=1000)(hbs:base<=x.heap.size):∃v' x',(execOp f o).run P x=.ok (.value v') x'/\x'.ownsRow base e 1 v' n (l.map (Value.int .i64))/\Below x.heap.size x x':=by
 subst hn;obtain⟨a,rfl⟩:∃a,A=some a:=by obtain⟨b',o',h,-⟩:=hat 0 _ (ZvL hne);exact⟨_,h⟩
 have hnews:∀j u,(l.map (Value.int .i64))[j]?=some u->x.cell? (a.add j)=some u:=fun j u hu=>by
  rw[ZvP]at hu;obtain⟨y,hy,rfl⟩:=Zxf.1 hu;obtain⟨b',o',h,-,hc⟩:=hat j y hy;cases h;have:=hc 0 _ rfl;have e:Addr.add ⟨b',o',none⟩ j=⟨b',o'+j,none⟩:=by unfold Addr.add;split<;>simp_all
  rw[e];simpa using this
 have hbt:l.length*bytes<=1000*1000:=ZwY hl hbb;subst hby;have hfl:(l.map (Value.int .i64)).length=l.length*i.size:=by simp[hsize]
 have hr:=run_append_grow (P:=P) (w:=x) t o.type e i z0 ht hi hz ⟨b,0,none⟩ 0 0 [] (by simp) (by simp) a l.length c (l.map (Value.int .i64)) hfl hnews (by omega) (by omega) (growslice_fits (by omega) (by rw[Zw9];omega));simp only[Zw9]at hr;have hge:=grownCap_ge x l.length 0 e;have hcm:grownCap x l.length 0 e<=maxLen:=grownCap_le_maxLen x l.length 0 e (by unfold maxLen;omega);have hb':Below x.heap.size x (x.drew.alloc (.cells (([]:List Value).toArray++(l.map (Value.int .i64)).toArray++Builtin.zeroCells z0.cells (grownCap x l.length 0 e-l.length)) e)):=((ZuK _ x).drew).alloc (by simp) _;refine⟨_,_,?_,⟨by simp,.inr ⟨x.heap.size,_,_,rfl,hbs,heap_alloc_new x.drew _,hge,hcm,?_,?_⟩⟩,hb'⟩;·unfold execOp;simp only[ho,resolve,invoke,builtin,Sem.run_bind,Sem.run_pure,Result.andThen_ok,Zwe,Zwa,Zwc,hs,hy,hr]
 ·simp only[Array.size_append,Zwy,size_zeroCells,hzs,Zv2,Zv3,Zw9,Zw0];omega
 ·simp only[Array.toList_append,Zwr,Zw0];rw[show l.length=(l.map (Value.int .i64)).length by simp];exact List.take_left
theorem ZkN{f:Operand->Value} {o:Oper} {x:World} (s y:Operand)(t e:TypeId)(i:TypeInfo)(z0 v:Value)(bytes base n b:Nat)(xs:List Value)(u:Value)(tb:TypeId)(ho:o.op=.call {callee:=.builtin .append,args:=#[s,y],argTypes:=#[t,t]})(hs:f s=v)(hy:f y=.slice (some ⟨b,0,none⟩) 1 1)(ht:P.underlying t=some (.slice e))(hi:P.info? e=some i)(hz:i.zero=some z0)(hsize:i.size=1)(hby:i.bytes=bytes)(hzs:z0.cells.size=1)(hbb:bytes<=1000)(hown:x.ownsRow base e 1 v n xs)(hb:x.heap[b]?=some (.cells #[u] tb (0,0)))(h1:u.oneCell'=true)(h63:n+1<=1000)(hbase:base<=x.heap.size):∃v' x',(execOp f o).run P x=.ok (.value v') x'/\x'.ownsRow base e 1 v' (n+1) (xs++[u])/\x.grownBy x' v.ownBlock/\(v'.ownBlock=v.ownBlock∨v'.ownBlock=some x.heap.size):=by
 have hbt:(n+1)*bytes<=1000*1000:=ZwY h63 hbb;obtain⟨g,cap,x',r1,r2,r3,r4,r5⟩:=run_append_lies (P:=P) x t o.type base e i z0 1 bytes ht hi hz hsize hby hzs (by decide) v n xs hown ⟨b,0,none⟩ 1 1 [u] (by simp) (fun j v' hj=>World.news_of_block hb j v' (by simpa using hj)) (by simpa using h1) (by decide) (by unfold maxLen;omega) (by omega) hbase _ rfl;refine⟨_,x',?_,r2,r3,?_⟩;·unfold execOp;simp only[ho,resolve,invoke,builtin,Sem.run_bind,Sem.run_pure,Result.andThen_ok,Zwe,Zwa,Zwc,hs,hy,r1]
 ·rcases r4 with h|h;·exact .inl h.symm
  ·subst h;exact .inr rfl
theorem RowsOwn.row6{w0 w x:World} {base n:Nat} {v:Value} {A7 A9:Option Addr} {c7 c9:Nat} {xs:List IR} {l:List Int} (h:RowsOwn w base v xs)(hb:base<=w.heap.size)(hK:Za1 w0 w v x)(h1:x.ownsRow w.heap.size 3 1 (.slice A9 n c9) n (l.map (Value.int .i64)))(hn:0<n)(h2:x.ownsRow base 28 1 (.slice A7 (xs.length+1) c7) (xs.length+1) ((xs.map fun x=>Value.slice x.A x.l.length x.c)++[.slice A9 n c9]))(h3:(Value.slice A7 (xs.length+1) c7).ownBlock=v.ownBlock∨∃r,(Value.slice A7 (xs.length+1) c7).ownBlock=some r/\w.heap.size<=r/\some r≠(Value.slice A9 n c9).ownBlock):RowsOwn x base (.slice A7 (xs.length+1) c7) (xs++[⟨A9,c9,l⟩]):=by
 have hln:l.length=n:=by have:=h1.1;simpa using this
 refine⟨?_,fun y hy=>?_⟩;·rw[ZvZ,Zv9];simpa [hln] using h2
 ·rcases Zwf.1 hy with hy|hy
  ·obtain⟨r1,r2⟩:=h.row y hy;refine⟨fun k z hz=>?_,fun a ha=>?_⟩;·obtain⟨b,o,hA,hlt,hc⟩:=r1 k z hz;obtain⟨q1,q2,q3⟩:=r2 _ hA;refine⟨b,o,hA,ZwS hlt hK.2.1,fun j u hu=>?_⟩;rw[<-hc j u hu];exact World.cell?_of_block (a:=⟨b,o+k*1+j,none⟩) (hK.2.2 b hlt q3)
   ·obtain⟨q1,q2,q3⟩:=r2 a ha;refine⟨q1,ZwS q2 hK.2.1,?_⟩;rcases h3 with e|⟨r,e,hr,-⟩;·rw[e];exact q3
    ·rw[e];intro he;cases he;omega
  ·rw[Zwp]at hy;subst hy;refine⟨ZaJ (n:=n) (c:=c9) h1,fun a ha=>?_⟩;dsimp only at ha;subst ha;obtain⟨p1,p2⟩:=h1.lt a.block rfl;refine⟨ZwP hb p1,p2,?_⟩;rcases h3 with e|⟨r,e,hr,he⟩;·rw[e];intro hh;have:=(h.own.lt _ hh.symm).2;omega
   ·rw[e];exact fun hh=>he hh.symm
end
section
variable {P:Program} {n:Nat}
theorem ZkO{l:Nat} {o:Oper} {a:Act} {w:World} {K:Act->World->Prop} {Q:Exit->Act->World->Prop} (hd:∀c,o.op≠.defer c)(h:o.wp P a w K Q):o.wpIn (Fence.wide.inRound l) n P a w K Q:=by unfold Oper.wpIn;refine⟨fun _ _=>trivial,?_⟩;rw[Oper.semAt_eq _ _ _ hd];unfold Oper.wp at h;generalize (execOp a.eval o).run P w=r at*;cases r with
 |ok nx w'=>
  cases nx<;>simp only[Oper.upon]at h<;>simp only[Oper.uponIn];case value u=>exact h
  case skip=>exact h
  case defer d=>exact h
  case enter f args=>exact⟨fun hh=>(by cases hh),(callsIn_wide.2 h).inRound l⟩
  case row r args=>refine⟨fun hh=>(by cases hh),fun c cs _=>?_⟩;obtain⟨v,w'',q,s⟩:=h c cs;exact⟨v,w'',q,stepsIn_wide.2 s⟩|halt x w'=>cases x<;>simp only[Oper.upon]at h<;>simp only[Oper.uponIn];exact h
theorem ZqD{ops:Array Oper} {l i:Nat} {a:Act} {w:World} {K K':Act->World->Prop} {Q:Exit->Act->World->Prop} (hd:∀o∈ops,∀c,o.op≠.defer c)(hL:¬LetsOut Q)(hK:∀a w,K a w->K' a w)(h:wpOp P ops Q i K a w):wpOpIn (Fence.wide.inRound l) n P ops Q i K' a w:=by
 have h:=wpOp_mono hK h;unfold wpOp at h;unfold wpOpIn;split;·rename_i ho;simpa only[ho] using h
 ·rename_i o ho;simp only[ho]at h;split
  ·rename_i hw;rw[if_pos hw]at h;rcases h with h|h;·exact ZkO (hd o (ZuD ho)) h
   ·exact absurd h.2 hL
  ·rename_i hw;rw[if_neg hw]at h;exact⟨fun _ _=>trivial,h⟩
theorem ZkP{ops:Array Oper} {md:Region.Mode} {l:Nat} {Q:Exit->Act->World->Prop} (hd:∀o∈ops,∀c,o.op≠.defer c)(hL:¬LetsOut Q):∀(f:Nat)(listed:Array Bool)(a:Act)(w:World),wpAny P md ops Q f listed a w->wpAnyIn (Fence.wide.inRound l) n P md ops Q f listed a w|0,_,_,_,h=>h|f+1,_,_,_,h=>⟨h.1,fun i hi=>ZqD hd hL (fun a' w' h'=>ZkP hd hL f _ a' w' h') (h.2 i hi)⟩
theorem ZdJ{ops:Array Oper} {l:Nat} {Q:Exit->Act->World->Prop} (hL:¬LetsOut Q):∀(os:List Oper)(a:Act)(w:World),os.all (fun o=>match o.op with|.defer _=>false|_=>true)=true->wpList P ops Q os a w->wpListIn (Fence.wide.inRound l) n P ops Q os a w
 |[],_,_,_,h=>h|o::rest,a,w,hd,h=>by
  simp only[Zvd,ZuM]at hd;have hd1:∀c,o.op≠.defer c:=fun c hc=>by rw[hc]at hd;cases hd.1
  unfold wpList at h;unfold wpListIn;split
  ·rename_i hw;rw[if_pos hw]at h;rcases h with h|h;·exact ZkO hd1 (Oper.wp_mono (fun a' w' h'=>ZdJ hL rest a' w' hd.2 h') h)
   ·exact absurd h.2 hL
  ·rename_i hw;rw[if_neg hw]at h;exact⟨fun _ _=>trivial,ZdJ hL rest _ _ hd.2 h⟩
def Zco(w0 w:World)(b4 b5 b6:Nat)(x:World):Prop:=Below w0.heap.size w0 x/\w.heap.size<=x.heap.size/\∀k,k<w.heap.size->k≠b4->k≠b5->k≠b6->x.heap[k]?=w.heap[k]?
theorem ZqE{Q:Exit->Act->World->Prop} {a0:Act} {w:World} {l:List Oper} (w0:World)(p q r:Nat)(b4 b5 b6:Nat)(y4 z4 y5 z5 y6 z6:Obj)(af:Act)(hB:Zam l.toArray=true) (hB':Zam (mixL [p,q,r] (fun _ _=>undef) (fun _=>Gh.zero) 0 l).toArray=true) (hS:Region.noSelect l.toArray=true) (hN:spB l.toArray [p,q,r]=true) (hne:p≠q/\p≠r/\q≠r)(hkd:(match l[p]?,l[q]?,l[r]? with|some o,some o',some o''=>o.dst.isNone&&o'.dst.isNone&&o''.dst.isNone|_,_,_=>false)=true)(hw:Below w0.heap.size w0 w)(hb:w0.heap.size<=b4/\w0.heap.size<=b5/\w0.heap.size<=b6)(hbn:b4≠b5/\b4≠b6/\b5≠b6)(h4:w.heap[b4]?=some y4)(h5:w.heap[b5]?=some y5)(h6:w.heap[b6]?=some y6)(hs4:∀o,l[p]?=some o->∀x,Zco w0 w b4 b5 b6 x->x.heap[b4]?=some y4->∃x',(execOp af.eval o).run P x=.ok .skip x'/\OnlyB b4 x x'/\x'.heap[b4]?=some z4)(hs5:∀o,l[q]?=some o->∀x,Zco w0 w b4 b5 b6 x->x.heap[b5]?=some y5->∃x',(execOp af.eval o).run P x=.ok .skip x'/\OnlyB b5 x x'/\x'.heap[b5]?=some z5)(hs6:∀o,l[r]?=some o->∀x,Zco w0 w b4 b5 b6 x->x.heap[b6]?=some y6->∃x',(execOp af.eval o).run P x=.ok .skip x'/\OnlyB b6 x x'/\x'.heap[b6]?=some z6)(hq:∀u,Zco w0 w b4 b5 b6 u->(∀(x:Grew u)(b o:Nat),b<u.heap.size->x.val.cell? ⟨b,o,none⟩=u.cell? ⟨b,o,none⟩)->wpQuiet P (mixL [p,q,r] (fun _ _=>undef) (fun _=>Gh.zero) 0 l).toArray (fun w'=>∃x:Grew u,w'=x.val) (fun a'=>a'=af) (mixL [p,q,r] (fun _ _=>undef) (fun _=>Gh.zero) 0 l) a0)(hend:∀x,Zco w0 w b4 b5 b6 x->x.heap[b4]?=some z4->x.heap[b5]?=some z5->x.heap[b6]?=some z6->Q .normal af x):wpAny P .any l.toArray Q l.toArray.size (Array.replicate l.toArray.size false) a0 {w with drawn:=w.drawn+1}:=by
 obtain⟨n1,n2,n3⟩:=hne;obtain⟨e1,e2,e3⟩:=hbn;have hdst:∀j∈[p,q,r],∀o,l[j]?=some o->o.dst=none:=by cases h1:l[p]? with|none=>rw[h1]at hkd;simp at hkd|some o1=>cases h2:l[q]? with|none=>rw[h1,h2]at hkd;simp at hkd|some o2=>cases h3:l[r]? with
    |none=>rw[h1,h2,h3]at hkd;simp at hkd|some o3=>
     rw[h1,h2,h3]at hkd;simp only[ZuM,Option.isNone_iff_eq_none]at hkd;intro j hj o ho;simp only[Zwi,Zwt,or_false]at hj;rcases hj with rfl|rfl|rfl;·rw[h1]at ho;cases ho;exact hkd.1.1
     ·rw[h2]at ho;cases ho;exact hkd.1.2
     ·rw[h3]at ho;cases ho;exact hkd.2
 have hkb:∀{x x':World} {b:Nat},Zco w0 w b4 b5 b6 x->OnlyB b x x'->(b=b4∨b=b5∨b=b6)->Zco w0 w b4 b5 b6 x':=fun {x x' b} h ho hb'=>⟨h.1.trans (ho.below _ (by rcases hb' with rfl|rfl|rfl;exact hb.1;exact hb.2.1;exact hb.2.2)),ZwP h.2.1 (ho.below 0 (Zxa _)).size,fun k hk k1 k2 k3=>(ho.other k (by rcases hb' with rfl|rfl|rfl<;>assumption)).trans (h.2.2 k hk k1 k2 k3)⟩;have hkB:∀{x x':World},Zco w0 w b4 b5 b6 x->Below x.heap.size x x'->Zco w0 w b4 b5 b6 x':=fun {x x'} h hbx=>⟨via h.1 hbx,ZwP h.2.1 hbx.size,fun k hk k1 k2 k3=>(hbx.block k (ZwS hk h.2.1)).trans (h.2.2 k hk k1 k2 k3)⟩;have hmx:∀g g',mixL [p,q,r] (fun _ _=>undef) g 0 l=mixL [p,q,r] (fun _ _=>undef) g' 0 l:=fun g g'=>by apply Zvz;intro j;have k1:=ZdF [p,q,r] (fun _ _=>undef) g l 0 j;have k2:=ZdF [p,q,r] (fun _ _=>undef) g' l 0 j;rw[k1,k2]
 refine Zc9 w0 (Zco w0 w b4 b5 b6) [p,q,r] (fun _ _=>undef) (fun L g x=>x.heap[b4]?=some (if L p then z4 else y4)/\x.heap[b5]?=some (if L q then z5 else y5)/\x.heap[b6]?=some (if L r then z6 else y6)) (fun _=>af) hB (fun g=>by rw[hmx g (fun _=>Gh.zero)];exact hB') hS hN
  ⟨hw,ZwO _,fun _ _ _ _ _=>rfl⟩ (fun x x' h hb=>hkB h hb) (fun x h=>h.1) ?_ ?_ (fun g u hu hgc _ _=>by rw[hmx g (fun _=>Gh.zero)];exact hq u hu hgc) (fun _ _ _ _=>rfl) ?_ ?_;·intro L h;rw[h p (by simp),h q (by simp),h r (by simp)];exact⟨h4,h5,h6⟩
 ·rintro L L' g x x' h ⟨k1,k2,k3⟩ hbx;rw[h p (by simp),h q (by simp),h r (by simp)];exact⟨Zw hbx k1,Zw hbx k2,Zw hbx k3⟩
 ·intro j hj o ho L g x ⟨k1,k2,k3⟩ hC hB0 hL hafter hclo;have hd:=hdst j hj o ho;simp only[Zwi,Zwt,or_false]at hj;rcases hj with rfl|rfl|rfl;·rw[hL]at k1;obtain⟨x',r1,r2,r3⟩:=hs4 o ho x hC k1;refine ZcC r1 ⟨hkb hC r2 (.inl rfl),.inl ⟨hd,?_⟩⟩;rw[Za0,ZJ (Ne.symm n1),ZJ (Ne.symm n2)];exact⟨r3,r2.keep (Ne.symm e1) k2,r2.keep (Ne.symm e2) k3⟩
  ·rw[hL]at k2;obtain⟨x',r1,r2,r3⟩:=hs5 o ho x hC k2;refine ZcC r1 ⟨hkb hC r2 (.inr (.inl rfl)),.inl ⟨hd,?_⟩⟩;rw[Za0,ZJ n1,ZJ (Ne.symm n3)];exact⟨r2.keep e1 k1,r3,r2.keep (Ne.symm e3) k3⟩
  ·rw[hL]at k3;obtain⟨x',r1,r2,r3⟩:=hs6 o ho x hC k3;refine ZcC r1 ⟨hkb hC r2 (.inr (.inr rfl)),.inl ⟨hd,?_⟩⟩;rw[Za0,ZJ n2,ZJ n3];exact⟨r2.keep e2 k1,r2.keep e3 k2,r3⟩
 ·rintro g x ⟨k1,k2,k3⟩ hC hB0;simp only[if_true]at k1 k2 k3;exact hend x hC k1 k2 k3
end
section
variable {P:Program}
def ZdK(o:Oper):List Nat:=(o.after.toList.filter (Region.binds .any)).map (·.on)
def ZkQ(l:List Oper)(S:List Nat):List Nat:=S.foldl (fun acc i=>match l[i]? with|some o=>(ZdK o).foldl (fun a e=>if a.contains e then a else a++[e]) acc|none=>acc) S
def Zfc(l:List Oper):Nat->List Nat->List Nat|0,S=>S|n+1,S=>Zfc l n (ZkQ l S)
def Zf5(l:List Oper)(sp:List Nat)(dep:Nat->List Nat):Bool:=sp.all fun j=>match l[j]? with|some o=>(dep j).all fun i=>(Zfc l l.length (ZdK o)).contains i|none=>false
theorem Zf6{o:Oper} {L:Nat->Bool} (h:∀e∈o.after,Region.binds .any e=true->L e.on=true):∀i∈ZdK o,L i=true:=by intro i hi;obtain⟨e,he,rfl⟩:=Zwm.1 hi;obtain⟨h1,h2⟩:=Zwk.1 he;exact h e (by simpa using h1) h2
theorem ZqF{l:List Oper} {L:Nat->Bool} (hc:∀(i:Nat)(o:Oper),l[i]?=some o->L i=true->∀e∈o.after,Region.binds .any e=true->L e.on=true) {S:List Nat} (hS:∀i∈S,L i=true):∀i∈ZkQ l S,L i=true:=by
 have inner:∀(es acc:List Nat),(∀i∈acc,L i=true)->(∀i∈es,L i=true)->∀i∈es.foldl (fun a e=>if a.contains e then a else a++[e]) acc,L i=true:=by intro es;induction es with|nil=>intro acc h _ i hi;exact h i hi|cons e es ih=>
   intro acc h h2 i hi;refine ih _ (fun j hj=>?_) (fun j hj=>h2 j (by simp[hj])) i hi;dsimp only at hj;split at hj;·exact h j hj
   ·rcases Zwf.1 hj with hj|hj;·exact h j hj
    ·rw[Zwp]at hj;subst hj;exact h2 _ (by simp)
 have outer:∀(T acc:List Nat),(∀i∈T,L i=true)->(∀i∈acc,L i=true)->∀i∈T.foldl (fun acc i=>match l[i]? with|some o=>(ZdK o).foldl (fun a e=>if a.contains e then a else a++[e]) acc|none=>acc) acc,L i=true:=by intro T;induction T with
  |nil=>intro acc _ h i hi;exact h i hi|cons t T ih=>
   intro acc hT h i hi;refine ih _ (fun j hj=>hT j (by simp[hj])) (fun j hj=>?_) i hi;dsimp only at hj;split at hj;·rename_i o ho;exact inner _ _ h (Zf6 (hc t o ho (hT t (by simp)))) j hj
   ·exact h j hj
 exact outer S S hS hS
theorem Zf7{l:List Oper} {L:Nat->Bool} (hc:∀(i:Nat)(o:Oper),l[i]?=some o->L i=true->∀e∈o.after,Region.binds .any e=true->L e.on=true):∀(n:Nat) {S:List Nat},(∀i∈S,L i=true)->∀i∈Zfc l n S,L i=true|0,_,hS=>hS|n+1,_,hS=>Zf7 hc n (ZqF hc hS)
theorem Zf8{l:List Oper} {sp:List Nat} {dep:Nat->List Nat} (h:Zf5 l sp dep=true) {L:Nat->Bool} (hc:∀(i:Nat)(o:Oper),l[i]?=some o->L i=true->∀e∈o.after,Region.binds .any e=true->L e.on=true) {j:Nat} (hj:j∈sp) {o:Oper} (ho:l[j]?=some o)(ha:∀e∈o.after,Region.binds .any e=true->L e.on=true):∀i∈dep j,L i=true:=by have h1:=Zve.1 h j hj;rw[ho]at h1;intro i hi;have h2:=Zve.1 h1 i hi;exact Zf7 hc _ (Zf6 ha) i (by simpa using h2)
theorem ZhW{K K':Value->World->Prop} {r:Result Next} (h:ZbU P K r)(hK:∀v x,K v x->K' v x):ZbU P K' r:=by cases r with
 |ok n x=>
  cases n<;>simp only[ZbU]at h |-;case value v=>exact hK _ _ h
  case skip=>exact hK _ _ h
  case enter f args=>exact h.mono fun e x' ⟨v,he,hk⟩=>⟨v,he,hK _ _ hk⟩|halt hh x=>exact h
def Za2(sts:List Nat)(tg:Nat->Nat)(L:Nat->Bool)(j:Nat):Bool:=sts.any fun k=>tg k==j&&L k
theorem Zej{Q:Exit->Act->World->Prop} {a0:Act} {w:World} {l:List Oper} (w0:World)(C:World->Prop)(mks sts:List Nat)(tg:Nat->Nat)(dep:Nat->List Nat)(mk:Nat->Gh->Value)(R:Nat->Bool->(Nat->Gh)->World->Prop)(Own:Nat->Gh->Nat->Prop)(af:(Nat->Gh)->Act)(hB:Zam l.toArray=true)(hB':∀g,Zam (mixL (mks++sts) mk g 0 l).toArray=true)(hS:Region.noSelect l.toArray=true)(hN:spB l.toArray (mks++sts)=true)(hnd:(mks++sts).Nodup)(htg:∀k∈sts,tg k∈mks/\tg k∈dep k)(hinj:∀k∈sts,∀k'∈sts,tg k=tg k'->k=k')(hD:Zf5 l (mks++sts) dep=true)(hkd:sts.all (fun k=>match l[k]? with|some o=>o.dst.isNone|none=>false)=true)(hC0:C w)(hCs:∀x x',C x->Below x.heap.size x x'->C x')(hCw:∀x,C x->Below w0.heap.size w0 x)(hCz:∀x,C x->w.heap.size<=x.heap.size)(hCo:∀x x' b,C x->OnlyB b x x'->w.heap.size<=b->C x')(hRb:∀j f g x x',R j f g x->Below x.heap.size x x'->R j f g x')(hRg:∀i f g j h x,j≠i->j∉dep i->(f=true->∀k∈sts,tg k=i->j∉dep k)->R i f g x->R i f (upd g j h) x)(hRo:∀i f g b x x',C x->R i f g x->OnlyB b x x'->w.heap.size<=b->¬Own i (g i) b->R i f g x')(hmake:∀j∈mks,∀o,l[j]?=some o->∀(g:Nat->Gh)(x:World),C x->(∀i∈dep j,i∈mks->∃f,R i f g x/\∀b,Own i (g i) b->w.heap.size<=b/\b<x.heap.size)->ZbU P (fun v x'=>∃h,v=mk j h/\R j false (upd g j h) x'/\Below x.heap.size x x'/\∀b,Own j h b->x.heap.size<=b/\b<x'.heap.size) ((execOp (af g).eval o).run P x))(hstore:∀k∈sts,∀o,l[k]?=some o->∀(g:Nat->Gh)(x:World),C x->R (tg k) false g x->(∀i∈dep k,i∈mks->i≠tg k->∃f,R i f g x)->∃x' b,(execOp (af g).eval o).run P x=.ok .skip x'/\Own (tg k) (g (tg k)) b/\OnlyB b x x'/\R (tg k) true g x')(hq:∀g u,C u->(∀(x:Grew u)(b o:Nat),b<u.heap.size->x.val.cell? ⟨b,o,none⟩=u.cell? ⟨b,o,none⟩)->Hid (∀x:Grew u,Below w0.heap.size w0 x.val)->Hid (∀x:Grew u,C x.val)->wpQuiet P (mixL (mks++sts) mk g 0 l).toArray (fun w'=>∃x:Grew u,w'=x.val) (fun a'=>a'=af g) (mixL (mks++sts) mk g 0 l) a0)(hind:∀j∈mks++sts,∀g h,Zap (Zas l.toArray j 0 l []) 0 (af g).tmps.toList=Zap (Zas l.toArray j 0 l []) 0 (af (upd g j h)).tmps.toList)(hend:∀(g:Nat->Gh)(x:World),C x->(∀j∈mks,R j (sts.any fun k=>tg k==j) g x/\(∀b,Own j (g j) b->w.heap.size<=b/\b<x.heap.size)/\∀i∈mks,i≠j->∀b,Own j (g j) b->¬Own i (g i) b)->Q .normal (af g) x):wpAny P .any l.toArray Q l.toArray.size (Array.replicate l.toArray.size false) a0 {w with drawn:=w.drawn+1}:=by
 have hdst:∀k∈sts,∀o,l[k]?=some o->o.dst=none:=fun k hk o ho=>by have:=Zve.1 hkd k hk;rw[ho]at this;simpa using this
 have hns:∀j∈mks,j∉sts:=fun j hj hs=>by obtain⟨-,-,h⟩:=List.nodup_append.1 hnd;exact h j hj j hs rfl
 have hflag:∀(L:Nat->Bool)(j k:Nat),j∈mks->Za2 sts tg (ZaT L j) k=Za2 sts tg L k:=fun L j k hj=>by
  unfold Za2;rw[ZuP,Zvh,Zvh];constructor;·rintro⟨s,hs,h⟩;have:s≠j:=fun e=>hns j hj (e▸hs);rw[ZJ this]at h;exact⟨s,hs,h⟩
  ·rintro⟨s,hs,h⟩;have:s≠j:=fun e=>hns j hj (e▸hs);exact⟨s,hs,by rw[ZJ this];exact h⟩
 refine Zc9 w0 C (mks++sts) mk (fun L g x=>∀j∈mks,L j=true->R j (Za2 sts tg L j) g x/\(∀b,Own j (g j) b->w.heap.size<=b/\b<x.heap.size)/\∀i∈mks,i≠j->L i=true->∀b,Own j (g j) b->¬Own i (g i) b) af hB hB' hS hN hC0 hCs hCw ?_ ?_ hq hind ?_ ?_;·intro L h j hj hL;rw[h j (Zwg _ hj)]at hL;cases hL
 ·intro L L' g x x' h hJ hb j hj hL;have hf:Za2 sts tg L' j=Za2 sts tg L j:=by
   unfold Za2;rw[ZuP,Zvh,Zvh];constructor;·rintro⟨s,hs,h'⟩;rw[h s (Zwh _ hs)]at h';exact⟨s,hs,h'⟩
   ·rintro⟨s,hs,h'⟩;exact⟨s,hs,by rw[h s (Zwh _ hs)];exact h'⟩
  rw[h j (Zwg _ hj)]at hL;obtain⟨h1,h2,h3⟩:=hJ j hj hL;rw[hf];exact⟨hRb _ _ _ _ _ h1 hb,fun b hb'=>⟨(h2 b hb').1,ZwS (h2 b hb').2 hb.size⟩,fun i hi hne hLi=>h3 i hi hne (by rw[<-h i (Zwg _ hi)];exact hLi)⟩
 ·intro j hj o ho L g x hJ hC hB0 hL hafter hclo;have hdj:=Zf8 hD hclo hj ho hafter;have hdd:∀i∈mks++sts,L i=true->∀d∈dep i,L d=true:=fun i hi hLi d hd=>by
   have:∃o,l[i]?=some o:=by have h1:=Zve.1 hD i hi;cases h2:l[i]? with
    |none=>rw[h2]at h1;cases h1|some o=>exact⟨o,rfl⟩
   obtain⟨o',ho'⟩:=this;exact Zf8 hD hclo hi ho' (hclo i o' ho' hLi) d hd
  rcases Zwf.1 hj with hjm|hjs
  ·have hmk:=hmake j hjm o ho g x hC fun i hi him=>by obtain⟨h1,h2,-⟩:=hJ i him (hdj i hi);exact⟨_,h1,h2⟩
   refine ZhW hmk ?_;rintro v x' ⟨h,rfl,hR,hb,hO⟩;refine⟨hCs _ _ hC hb,.inr ⟨h,rfl,fun i hi hLi=>?_⟩⟩;rw[hflag L j i hjm];by_cases hij:i=j
   ·subst hij;have hf0:Za2 sts tg L i=false:=by unfold Za2;rw[Zvg];intro k hk hh;simp only[ZuM,beq_iff_eq]at hh;have:=hdd k (Zwh _ hk) hh.2 (tg k) (htg k hk).2;rw[hh.1,hL]at this;cases this
    rw[hf0];refine⟨hR,fun b hb'=>?_,fun i' hi' hne hLi' b hb'=>?_⟩;·rw[Zad]at hb';have:=hO b hb';exact⟨ZwP (hCz x hC) this.1,this.2⟩
    ·rw[Zad]at hb';rw[upd_ne hne];intro hb2;rw[ZJ hne]at hLi';have h1:=(hO b hb').1;have h2:=((hJ i' hi' hLi').2.1 b hb2).2;omega
   ·rw[ZJ hij]at hLi;obtain⟨h1,h2,h3⟩:=hJ i hi hLi;refine⟨hRg i _ g j h x' (Ne.symm hij) (fun hd=>?_) (fun hf k hk hki hd=>?_) (hRb _ _ _ _ _ h1 hb),fun b hb'=>?_,fun i' hi' hne hLi' b hb'=>?_⟩;·have:=hdd i (Zwg _ hi) hLi j hd;rw[hL]at this;cases this
    ·have hLk:L k=true:=by unfold Za2 at hf;obtain⟨k',hk',hh⟩:=Zvh.1 hf;simp only[ZuM,beq_iff_eq]at hh;have:=hinj k' hk' k hk (hh.1.trans hki.symm);rw[<-this];exact hh.2
     have:=hdd k (Zwh _ hk) hLk j hd;rw[hL]at this;cases this
    ·rw[upd_ne hij]at hb';have:=h2 b hb';exact⟨this.1,ZwS this.2 hb.size⟩
    ·rw[upd_ne hij]at hb';by_cases hi'j:i'=j;·subst hi'j;rw[Zad];intro hb2;have h1:=(hO b hb2).1;have h2':=(h2 b hb').2;omega
     ·rw[upd_ne hi'j];rw[ZJ hi'j]at hLi';exact h3 i' hi' hne hLi' b hb'
  ·obtain⟨htm,htd⟩:=htg j hjs;have hLm:=hdj _ htd;obtain⟨m1,m2,m3⟩:=hJ _ htm hLm;have hf0:Za2 sts tg L (tg j)=false:=by unfold Za2;rw[Zvg];intro k hk hh;simp only[ZuM,beq_iff_eq]at hh;have:=hinj k hk j hjs hh.1;rw[this,hL]at hh;cases hh.2
   rw[hf0]at m1;obtain⟨x',b,r1,r2,r3,r4⟩:=hstore j hjs o ho g x hC m1 fun i hi him hne=>⟨_,(hJ i him (hdj i hi)).1⟩;have hbw:=m2 b r2;have hsz:=(r3.below 0 (Zxa _)).size;refine ZcC r1 ⟨hCo _ _ _ hC r3 hbw.1,.inl ⟨hdst j hjs o ho,fun i hi hLi=>?_⟩⟩;have hij:i≠j:=fun e=>hns i hi (e▸hjs);rw[ZJ hij]at hLi;by_cases him:i=tg j
   ·subst him;have hf1:Za2 sts tg (ZaT L j) (tg j)=true:=by unfold Za2;rw[Zvh];exact⟨j,hjs,by rw[Za0];simp⟩
    rw[hf1];refine⟨r4,fun b' hb'=>?_,fun i' hi' hne hLi'=>?_⟩;·have:=m2 b' hb';exact⟨this.1,ZwS this.2 hsz⟩
    ·rw[ZJ (show i'≠j from fun e=>hns i' hi' (e▸hjs))]at hLi';exact m3 i' hi' hne hLi'
   ·have hf1:Za2 sts tg (ZaT L j) i=Za2 sts tg L i:=by
     unfold Za2;rw[ZuP,Zvh,Zvh];constructor;·rintro⟨s,hs,h'⟩;simp only[ZuM,beq_iff_eq]at h';have:s≠j:=fun e=>him (by rw[<-h'.1,e]);rw[ZJ this]at h';exact⟨s,hs,by simp[h'.1,h'.2]⟩
     ·rintro⟨s,hs,h'⟩;simp only[ZuM,beq_iff_eq]at h';have:s≠j:=fun e=>by rw[e,hL]at h';cases h'.2
      exact⟨s,hs,by rw[ZJ this];simp[h'.1,h'.2]⟩
    rw[hf1];obtain⟨h1,h2,h3⟩:=hJ i hi hLi;refine⟨hRo _ _ _ b _ _ hC h1 r3 hbw.1 (fun ho'=>h3 (tg j) htm (Ne.symm him) hLm b ho' r2),fun b' hb'=>?_,fun i' hi' hne hLi'=>?_⟩;·have:=h2 b' hb';exact⟨this.1,ZwS this.2 hsz⟩
    ·rw[ZJ (show i'≠j from fun e=>hns i' hi' (e▸hjs))]at hLi';exact h3 i' hi' hne hLi'
 ·intro g x hJ hC hB0;refine hend g x hC fun j hj=>?_;obtain⟨h1,h2,h3⟩:=hJ j hj rfl;refine⟨?_,h2,fun i hi hne=>h3 i hi hne rfl⟩;have:Za2 sts tg (fun _=>true) j=sts.any fun k=>tg k==j:=by simp[Za2]
  rw[<-this];exact h1
end
section
variable {P:Program}
theorem Zfd {Q : Exit -> Act -> World -> Prop} {a0 : Act} {w : World} {l : List Oper} (n : Nat) (oz : Oper) (hn : l.length = n + 1) (hz : l[n]? = some oz)
    (hB : Zam (l.take n).toArray = true) (hG : l.all (fun o => o.guard.isNone) = true) (hA : (List.range n).all (fun i => oz.after.any fun e => Region.binds .any e && e.on == i) = true) (hE : oz.after.all (fun e => !Region.binds .any e || decide (e.on < n)) = true)
    (h : wpAny P .any (l.take n).toArray (fun e a x => match e with | .normal => oz.wp P a x (fun a' x' => Q .normal a' x') Q | e => Q e a x) (l.take n).toArray.size (Array.replicate (l.take n).toArray.size false) a0 { w with drawn := w.drawn + 1 }) :
    wpAny P .any l.toArray Q l.toArray.size (Array.replicate l.toArray.size false) a0 { w with drawn := w.drawn + 1 } := by
  have H := ZdD hB
  have hlen : (l.take n).length = n := by simp; omega
  have hgn : ∀ (i : Nat) (o : Oper), l[i]? = some o -> o.guard = none := fun i o ho => by
    have := Zve.1 hG o (Zwn ho)
    simpa using this
  have get0 : ∀ i, i < n -> (l.take n).toArray[i]? = l.toArray[i]? := fun i hi => by simp [ZvV hi]
  have getn : ∀ i, n <= i -> (l.take n).toArray[i]? = none := fun i hi => by simp [ZvM (show (l.take n).length <= i by omega)]
  have pushD : ∀ (listed : Array Bool) (b d : Bool) (i : Nat), listed.size = n -> i < n -> (listed.push b).getD i d = listed.getD i d := fun listed b d i hs hi => by
    rw [Zuj, Zuj, Zut (by omega)]
    simp [Zum (show i < listed.size by omega)]
  have pushL : ∀ (listed : Array Bool) (b d : Bool), listed.size = n -> (listed.push b).getD n d = b := fun listed b d hs => by
    rw [Zuj, <- hs]
    simp
  have rdy : ∀ (listed : Array Bool) (b : Bool) (i : Nat), listed.size = n -> i < n -> (i ∈ Region.ready .any l.toArray (listed.push b) ↔ i ∈ Region.ready .any (l.take n).toArray listed) := fun listed b i hs hi => by
    rw [mem_ready, mem_ready, pushD _ _ _ _ hs hi, get0 i hi]
    constructor
    · rintro ⟨h1, o, ho, h2⟩
      refine ⟨h1, o, ho, fun e he hb => ?_⟩
      have := H.after i o e ((get0 i hi).trans ho) he hb
      rw [<- pushD listed b false e.on hs (by omega)]
      exact h2 e he hb
    · rintro ⟨h1, o, ho, h2⟩
      refine ⟨h1, o, ho, fun e he hb => ?_⟩
      have := H.after i o e ((get0 i hi).trans ho) he hb
      rw [pushD listed b false e.on hs (by omega)]
      exact h2 e he hb
  have gen : ∀ (f : Nat) (listed : Array Bool) (a : Act) (x : World), listed.size = n -> wpAny P .any (l.take n).toArray (fun e a x => match e with | .normal => oz.wp P a x (fun a' x' => Q .normal a' x') Q | e => Q e a x) f listed a x -> wpAny P .any l.toArray Q (f + 1) (listed.push false) a x := by
    have fin : ∀ (f : Nat) (listed : Array Bool) (a : Act) (x : World), listed.size = n -> (∀ i, i < n -> listed.getD i true = true) -> oz.wp P a x (fun a' x' => Q .normal a' x') Q -> wpAny P .any l.toArray Q (f + 1) (listed.push false) a x := by
      intro f listed a x hs hu hw
      have hrn : n ∈ Region.ready .any l.toArray (listed.push false) := by
        rw [mem_ready]
        refine ⟨pushL _ _ _ hs, oz, by simpa using hz, fun e he hb => ?_⟩
        have h1 := Zua.1 hE e he
        rw [hb] at h1
        simp only [ZuU, ZuR, decide_eq_true_eq] at h1
        rw [pushD _ _ _ _ hs h1]
        have := hu e.on h1
        rw [Zuj, Zum (by omega)] at this |-
        exact this
      refine ⟨fun h0 => (by rw [h0] at hrn; cases hrn), fun i hi => ?_⟩
      have hin : i = n := by
        obtain ⟨h1, o, ho, -⟩ := mem_ready.1 hi
        have hlt : i < l.length := by simpa using Zan ho
        rcases ZwT i n with h | h
        · rw [pushD _ _ _ _ hs h, hu i h] at h1
          cases h1
        · omega
      subst hin
      have hset : (listed.push false).setIfInBounds i true = listed.push true := by
        apply Zug
        intro j
        rw [Zuv, Zus, Zus]
        simp only [ZuG, hs]
        by_cases h : i = j
        · subst h; simp [hs]
        · simp [h, hs, Ne.symm h]
      have hlast : wpAny P .any l.toArray Q f (listed.push true) = fun a' x' => wpAny P .any l.toArray Q f (listed.push true) a' x' := rfl
      have hr0 : Region.ready .any l.toArray (listed.push true) = [] := by
        rw [Zvv]
        intro j hj
        obtain ⟨h1, o, ho, -⟩ := mem_ready.1 hj
        have hlt : j < l.length := by simpa using Zan ho
        rcases ZwT j i with h | h
        · rw [pushD _ _ _ _ hs h, hu j h] at h1
          cases h1
        · have : j = i := by omega
          subst this
          rw [pushL _ _ _ hs] at h1
          cases h1
      have hK : ∀ a' x', Q .normal a' x' -> wpAny P .any l.toArray Q f (listed.push true) a' x' := fun a' x' h => by
        cases f with
        | zero => exact ⟨hr0, h⟩
        | succ f => exact ⟨fun _ => h, fun j hj => by rw [hr0] at hj; cases hj⟩
      unfold wpOp
      have hzi : l.toArray[i]? = some oz := by simpa using hz
      simp only [hzi]
      have hwn : Region.wanted oz (yielded l.toArray a.tmps) = true := by unfold Region.wanted; rw [hgn i oz hz]
      rw [if_pos hwn, hset]
      exact .inl (Oper.wp_mono hK hw)
    intro f
    induction f with
    | zero =>
      rintro listed a x hs ⟨hr, hq⟩
      exact fin 0 listed a x hs (fun i hi => Zc5 H (by simp [hs]; omega) hr i (by simp; omega)) hq
    | succ f ih =>
      rintro listed a x hs ⟨hr, hq⟩
      by_cases hr0 : Region.ready .any (l.take n).toArray listed = []
      · exact fin (f + 1) listed a x hs (fun i hi => Zc5 H (by simp [hs]; omega) hr0 i (by simp; omega)) (hr hr0)
      · have hnn : ∀ i, i ∈ Region.ready .any l.toArray (listed.push false) -> i < n := by
          intro i hi
          obtain ⟨h1, o, ho, h2⟩ := mem_ready.1 hi
          have hlt : i < l.length := by simpa using Zan ho
          rcases ZwT i n with h | h
          · exact h
          · have hin : i = n := by omega
            subst hin
            exfalso
            obtain ⟨j, hj⟩ := Zvy _ hr0
            obtain ⟨h3, o3, ho3, -⟩ := mem_ready.1 hj
            have hji : j < i := by
              rcases ZwT j i with h | h
              · exact h
              · rw [getn j h] at ho3; cases ho3
            have hzo : o = oz := by
              rw [show l.toArray[i]? = l[i]? by simp, hz] at ho
              exact (Zxh ho).symm
            subst hzo
            have h4 := Zve.1 hA j (Zwo.2 hji)
            obtain ⟨e, he, hb⟩ := Array.any_eq_true'.1 h4
            simp only [ZuM, beq_iff_eq] at hb
            have h5 := h2 e he hb.1
            rw [hb.2, pushD _ _ _ _ hs hji] at h5
            rw [Zuj, Zum (by omega)] at h3 h5
            simp only [Zxd] at h3 h5
            rw [h3] at h5
            cases h5
        refine ⟨fun h0 => ?_, fun i hi => ?_⟩
        · exfalso
          obtain ⟨j, hj⟩ := Zvy _ hr0
          have hji : j < n := by
            obtain ⟨h3, o3, ho3, -⟩ := mem_ready.1 hj
            rcases ZwT j n with h | h
            · exact h
            · rw [getn j h] at ho3; cases ho3
          have := (rdy listed false j hs hji).2 hj
          rw [h0] at this
          cases this
        · have hin := hnn i hi
          have hi0 := (rdy listed false i hs hin).1 hi
          have h6 := hq i hi0
          obtain ⟨-, o, ho, -⟩ := mem_ready.1 hi0
          have hol : l.toArray[i]? = some o := (get0 i hin).symm.trans ho
          have hg := hgn i o (by simpa using hol)
          unfold wpOp at h6 |-
          simp only [ho] at h6
          simp only [hol]
          have hw1 : ∀ y, Region.wanted o y = true := fun y => by unfold Region.wanted; rw [hg]
          rw [if_pos (hw1 _)] at h6
          rw [if_pos (hw1 _)]
          have hset : (listed.push false).setIfInBounds i true = (listed.setIfInBounds i true).push false := by
            apply Zug
            intro j
            rw [Zuv, Zus, Zus, Zuv]
            simp only [ZuG, ZuH, hs]
            by_cases h : i = j
            · subst h; simp [hs, hin, Nat.lt_succ_of_lt hin, Nat.ne_of_lt hin]
            · simp [h]
          rw [hset]
          have hmono : ∀ a' x', wpAny P .any (l.take n).toArray (fun e a x => match e with | .normal => oz.wp P a x (fun a' x' => Q .normal a' x') Q | e => Q e a x) f (listed.setIfInBounds i true) a' x' -> wpAny P .any l.toArray Q (f + 1) ((listed.setIfInBounds i true).push false) a' x' := fun a' x' h => ih _ a' x' (by simp [hs]) h
          rcases h6 with h6 | ⟨h6, h7⟩
          · left
            refine Oper.wp_mono hmono ?_
            unfold Oper.wp at h6 |-
            generalize (execOp a.eval o).run P x = r at *
            cases r with
            | ok nx w' =>
              cases nx with
              | enter f' args => exact (show Calls P f' args w' _ from h6).mono fun e w'' he => by cases e <;> exact he
              | _ => exact h6
            | halt v w' => cases v <;> exact h6
          · right
            exact ⟨h6, h7⟩
  have hpr : (Array.replicate (l.take n).toArray.size false).push false = Array.replicate l.toArray.size false := by
    rw [<- ZuF]
    congr 1
    simp
    omega
  have := gen _ _ _ _ (by simp; omega) h
  rw [hpr] at this
  have e : (l.take n).toArray.size + 1 = l.toArray.size := by simp; omega
  rwa [e] at this
theorem Zfe{K:Act->World->Prop} {Q:Exit->Act->World->Prop} {o:Oper} {a:Act} {w:World} (v:Value)(h:(execOp a.eval o).run P w=.ok (.value v) w)(hK:K (a.put o.dst v) w):o.wp P a w K Q:=by unfold Oper.wp;rw[h];exact hK
theorem ZhX{K:Act->World->Prop} {Q:Exit->Act->World->Prop} {o:Oper} {a:Act} {w:World} (p q:Operand)(t:TypeId)(ho:o.op=.store t p q)(b:Nat)(vs cs:List Value)(T:TypeId)(hp:a.eval p=.pointer (some ⟨b,0,none⟩))(hq:a.eval q=.agg vs.toArray)(hsz:(sizeOf t).run P w=.ok vs.length w)(hb:w.heap[b]?=some (.cells cs.toArray T (0,0)))(hl:cs.length=vs.length)(h1:∀u∈vs,u.oneCell'=true)(h:∀w',w'.heap[b]?=some (.cells vs.toArray T (0,0))->w.grownBy w' (some b)->w'.heap.size=w.heap.size->K (a.put o.dst undef) w'):o.wp P a w K Q:=by
 obtain⟨x',r1,r2,r3,r4⟩:=ZhJ (P:=P) b T vs 0 cs w hb (by omega) h1;unfold Oper.wp execOp;have e2:(storeVar t ⟨b,0,none⟩ (.agg vs.toArray)).run P w=.ok () x':=by unfold storeVar;simp only[Sem.run_bind,hsz,Result.andThen_ok,Value.cells,Zwy,ne_eq,not_true_eq_false,if_false];exact r1
 simp only[ho,Instr.storeAt,Instr.sureAddr,hp,hq,Sem.run_bind,Sem.run_pure,Result.andThen_ok,e2];refine h x' ?_ r3 r4;rw[r2];congr 2;apply congrArg;simp[hl]
end
end Go.Proofs
namespace Go.Proofs
theorem ZkR:∀(n:Nat)(l:List Int),l.length<=n->dotL (List.replicate n 1) l=l.sum|n,[],_=>by cases n<;>simp[List.replicate,dotL]|0,_::_,h=>by simp at h|n+1,x::l,h=>by simp only[List.replicate_succ,dotL,Zwz];rw[ZkR n l (by simpa using h)];omega
theorem ZkS(n i k:Nat)(hk:k<n):(ZaE n i).getD k 0=if k=i then 1 else 0:=by simp[ZaE,ZvG,List.getElem?_range hk]
theorem ZqG(m:List Int)(i:Nat):wsum m (fun k=>if k=i then 1 else 0)=m.getD i 0:=by induction m generalizing i with
 |nil=>simp[wsum]|cons x m ih=>cases i with
  |zero=>
   have:wsum m (fun k=>if k+1=0 then (1:Int)else 0)=0:=by rw[show (fun k:Nat=>if k+1=0 then (1:Int)else 0)=fun _=>0 by funext k;simp];exact Zpp m
   simp only[wsum,this];simp|succ i=>have:=ih i;simp only[wsum];rw[show (fun k:Nat=>if k+1=i+1 then (1:Int)else 0)=fun k=>if k=i then 1 else 0 by funext k;simp];rw[this];simp
theorem ZqH{n i:Nat} {l:List Int} (h:l.length<=n):dotL (ZaE n i) l=l.getD i 0:=by rw[Zj2 _ _ (by simp[ZaE];exact h),<-ZqG l i];apply Zpq;intro k x hk _;exact ZkS n i k (ZwS (ZvO.1 hk).1 h)
structure MixOf (np:Nat)(es:List Ex)(z t:List Nat)(m:List Int)(d:Int):Prop where
 len:m.length=np
 den:0<d
 nn:∀x∈m,0<=x
 sum:m.sum=d
 zero:∀i∈z,m.getD i 0=0
 per:∀x∈es,dotL x.1 m<=x.2*d
 tight:∀i∈t,∀x,es[i]?=some x->dotL x.1 m=x.2*d
theorem ZkT(g:Int):∀m:List Int,(m.map (g*·)).sum=g*m.sum|[]=>by simp|x::m=>by simp only[Zwa,Zwz];rw[ZkT g m];grind
theorem ZqI(g:Int)(m:List Int)(i:Nat):(m.map (g*·)).getD i 0=g*m.getD i 0:=by simp only[ZvG,ZvP];cases m[i]?<;>simp
theorem ZqJ{np:Nat} {es:List Ex} {z t:List Nat} {m:List Int} {d:Int} (h:Zbe np es z t=some (m,d))(hnp:1<=np)(h5:np<=5)(hes:∀x∈es,x.1.length=np)(hz:∀i∈z,i<np)(ht:∀i∈t,i<es.length)(hzt:z.length+t.length+1=np):MixOf np es z t m d:=by
 unfold Zbe at h;split at h;·cases h
 rename_i l den hs;split at h;·cases h
 rename_i hnn;split at h;·cases h
 rename_i hper;have hrl:(ZaQ np es z t).length=np:=by simp[ZaQ];omega
 have hrow:∀row∈ZaQ np es z t,row.length=(ZaQ np es z t).length+1:=by
  intro row hr;rw[hrl];simp only[ZaQ,Zwi,Zwf,Zwm]at hr;rcases hr with rfl|⟨i,hi,rfl⟩|⟨i,hi,rfl⟩;·simp
  ·simp[ZaE]
  ·have hx:es.getD i default∈es:=by rw[ZvG,ZvL (ht i hi)];exact ZvX _
   rw[ZvZ,hes _ hx];rfl
 obtain⟨hden,hlen,hsol⟩:=Zpm hs (by omega) hrow;rw[hrl]at hlen hsol;have hg:0<gcdL 0 (den::l):=Ze0 den (by simp) (by omega);obtain⟨-,hdv⟩:=ZdA (den::l) 0;generalize gcdL 0 (den::l)=g at*;have hgI:(0:Int)<g:=by omega
 obtain⟨rfl,rfl⟩:_/\_:=by simpa using h
 have el:=Zps hgI (l:=l) fun x hx=>hdv x (by simp[hx]);have ed:(g:Int)*(den / g)=den:=Int.mul_ediv_cancel' (hdv den (by simp));have hlen':(l.map (· / (g:Int))).length=np:=by simpa using hlen
 generalize l.map (· / (g:Int))=m at*;generalize den / (g:Int)=d at*;subst el ed;have cancel:∀{a b:Int},(g:Int)*a=g*b->a=b:=fun h=>Int.eq_of_mul_eq_mul_left (by omega) h;refine⟨hlen',?_,?_,?_,?_,?_,?_⟩;·exact Int.lt_of_mul_lt_mul_left (a:=(g:Int)) (by simpa using hden) (by omega)
 ·intro x hx;simp only[Zvh,Zwm,decide_eq_true_eq,not_exists,not_and]at hnn;have:=hnn (g*x) ⟨x,hx,rfl⟩;have h0:0<=(g:Int)*x:=by omega
  exact Int.le_of_mul_le_mul_left (a:=(g:Int)) (by simpa using h0) hgI
 ·have:=hsol (List.replicate (np+1) 1) (by simp[ZaQ]);rw[ZkR _ _ (by rw[hlen];omega),ZkT]at this;have e1:(List.replicate (np+1) (1:Int)).getD np 0=1:=by simp[ZvG]
  rw[e1]at this;exact cancel (by omega)
 ·intro i hi;have:=hsol (ZaE (np+1) i) (by simp only[ZaQ,Zwi,Zwf,Zwm];exact .inr (.inl ⟨i,hi,rfl⟩));rw[ZqH (by rw[hlen];omega),ZkS _ _ _ (by omega),if_neg (by have:=hz i hi;omega),ZqI]at this;exact cancel (by omega)
 ·intro x hx;simp only[Zvh,not_exists,not_and]at hper;have:=hper x hx;simp only[ZuT,decide_eq_false_iff_not,Bool.not_eq_false,Int.not_le,Int.not_lt,decide_eq_true_eq]at this;rw[Zhs]at this;have h2:(g:Int)*dotL x.1 m<=g*(x.2*d):=by grind
  exact Int.le_of_mul_le_mul_left h2 hgI
 ·intro i hi x hx;have hxe:es.getD i default=x:=by rw[ZvG,hx];rfl
  have:=hsol (x.1++[x.2]) (by simp only[ZaQ,Zwi,Zwf,Zwm];exact .inr (.inr ⟨i,hi,by rw[hxe]⟩));have hxl:=hes x (Zwn hx);rw[Zpr _ _ _ (by rw[hlen,hxl]),Zhs]at this;have e1:(x.1++[x.2]).getD np 0=x.2:=by simp[ZvG,<-hxl]
  rw[e1]at this;exact cancel (by grind)
def inR(k n x:Nat):Bool:=decide (k<=x)&&decide (x<k+n)
theorem ZqK(k n x:Nat):(if inR k (n+1) x=true then 1 else 0)=(if (x==k)=true then 1 else 0)+if inR (k+1) n x=true then 1 else 0:=by simp only[inR,ZuM,decide_eq_true_eq,beq_iff_eq];split<;>split<;>split<;>omega
theorem ZkU(k n:Nat):∀z:List Nat,z.countP (inR k (n+1))=z.count k+z.countP (inR (k+1) n)|[]=>rfl|x::z=>by have:=ZkU k n z;have h2:=ZqK k n x;rw[List.countP_cons,List.countP_cons,List.count_cons,this];omega
theorem ZhY(es:List Ex) {z t:List Nat} (hz:z.Nodup):∀(ws:List Int)(k:Nat),(proofRows es z t k ws).length+z.countP (inR k ws.length)=ws.length
 |[],k=>by
  have:z.countP (inR k ([]:List Int).length)=0:=by rw[List.countP_eq_zero];intro x _;simp[inR]
  rw[this];rfl|w::ws,k=>by
  have ih:=ZhY es hz ws (k+1) (z:=z) (t:=t);rw[Zv0,ZkU,hz.count];unfold proofRows;by_cases hk:k∈z;·simp only[if_pos hk];omega
  ·simp only[if_neg hk,Zv0];omega
theorem ZhZ(es:List Ex) {z t:List Nat}:∀(ws:List Int)(k:Nat),∀row∈proofRows es z t k ws,row.length=t.length+2
 |[],k,row,h=>by cases h|v::ws,k,row,h=>by
  unfold proofRows at h;split at h;·exact ZhZ es ws _ row h
  ·rcases Zwi.1 h with rfl|h;·simp[ZbH]
   ·exact ZhZ es ws _ row h
theorem Zh0(l:List Int):∀(t:List Nat)(k:Nat)(W:List Int),(putW l k t W).length=W.length|[],_,_=>rfl|i::t,k,W=>by unfold putW;rw[Zh0 l t];simp
end Go.Proofs
namespace Go.Proofs
open Tryz
open Go.RowKit
theorem ZkV{es:List En} {np:Nat} (h:RightE es np)(i c:Nat):(((exs es).getD i default).1.getD c 0).natAbs<=20:=by rw[ZvG (l:=exs es)];cases hi:(exs es)[i]? with|none=>simp[default,instInhabitedProd]|some x=>exact(h.exs_co x (Zwn hi)).get c
theorem Zh1{es:List En} {np:Nat} (h:RightE es np) {z t:List Nat}:∀(ws:List Int)(k:Nat),Small 400 ws->Zcn (proofRows (exs es) z t k ws)
 |[],_,_,row,hr=>by cases hr|w::ws,k,hs,row,hr=>by
  unfold proofRows at hr;have ih:=Zh1 h (z:=z) (t:=t) ws (k+1) fun x hx=>hs x (by simp[hx]);split at hr;·exact ih row hr
  ·rcases Zwi.1 hr with rfl|hr
   ·intro x hx;unfold ZbH at hx;rcases Zwi.1 hx with rfl|hx;·decide
    ·rcases Zwf.1 hx with hx|hx;·obtain⟨i,-,rfl⟩:=Zwm.1 hx;rw[Int.natAbs_neg];exact ZwP (ZkV h i k) (by decide)
     ·rw[Zwp]at hx;subst hx;exact hs x (by simp)
   ·exact ih row hr
def Zek(q:Option Prf)(en n0:Nat)(e:Ending)(w':World):Prop:=match q with|none=>e=.returned (.tuple #[.agg #[.int .i64 0,.int .i64 0,.slice none 0 0],.bool false])|some p=>∃A c,e=.returned (.tuple #[.agg #[.int .i64 p.den,.int .i64 p.lev,.slice A en c],.bool true])/\w'.ownsRow n0 3 1 (.slice A en c) en (p.W.map (Value.int .i64))
theorem ZqL{P:Program} {f:Operand->Value} {o:Oper} {t:TypeId} {p q:Operand} {v r:Value} {x x':World} (ho:o.op=.makeSlice t p q)(hp:f p=v)(hq:f q=v)(h:(Instr.makeSlice t v v).run P x=.ok r x'):(execOp f o).run P x=.ok (.value r) x':=by unfold execOp;rw[ho];simp only[hp,hq,Sem.run_bind,h,Result.andThen_ok,Sem.run_pure]
theorem ZqM(pA eA tA wA:Option Addr)(zv:Value)(np pc en ec tn tc wc:Nat)(es:List En)(ws:List Int)(z t:List Nat)(w:World)(hR:RightE es np)(hE:Zaw w eA es)(hen:es.length=en)(hT:At 1 Zc w tA (Z1 t))(htn:t.length=tn)(hW:At 1 Zc w wA ws)(hwn:ws.length=np)(h5:np<=5)(hws:Small 400 ws)(hz:∀i∈z,i<np)(hzn:z.Nodup)(ht:∀i∈t,i<en)(htnd:t.Nodup)(hzt:z.length+t.length+1=np)(hzo:zv.oneCell'=true):Calls prog 85 #[.agg (ZV (.slice pA np pc) (.slice eA en ec) zv (.slice tA tn tc) z t).toArray,.slice wA np wc] w fun e w'=>Zek (Zb4 (exs es) ws z t) en w.heap.size e w'/\Below w.heap.size w w':=by
 obtain⟨BA,hBA⟩:∃BA,(ZV (.slice pA np pc) (.slice eA en ec) zv (.slice tA tn tc) z t).toArray=BA:=⟨_,rfl⟩;have hE8:=hR.n8;have fT:=Zvc fun W (hb:Below w.heap.size w W) k (hk:k<tn)=>ZaF (hT.below hb) (k:=k) (by rw[Zfb];omega);have fW:=Zvc fun W (hb:Below w.heap.size w W) k (hk:k<np)=>ZaF (hW.below hb) (k:=k) (by omega);have fE:=Zvc fun W (hb:Below w.heap.size w W) i c (hi:i<en)(hc:c<np)=>(by
  have hi':i<es.length:=by omega
  obtain⟨b,o,hA,hlt,hcc⟩:=(hE.below hb).1 i _ (ZvL hi');have hx:=ZvX hi';obtain⟨h1,h2,-⟩:=hR.co _ hx;obtain⟨b2,o2,hA2,hlt2,hc2⟩:=ZaF ((hE.below hb).2 _ hx) (k:=c) (by omega);refine⟨es[i],b,o,b2,o2,hA,hlt,hlt2,h1,?_,hc2,h2.get c,Ze4 (ZvL hi')⟩;have:=hcc 1 _ rfl;rw[hA2]at this;exact this:∃x:En,∃b o b2 o2,eA=some ⟨b,o,none⟩/\b<W.heap.size/\b2<W.heap.size/\x.co.length=np/\W.cell? ⟨b,o+i*3+1,none⟩=some (.slice (some ⟨b2,o2,none⟩) x.co.length x.c)/\W.cell? ⟨b2,o2+c,none⟩=some (.int .i64 (x.co.getD c 0))/\(x.co.getD c 0).natAbs<=20/\(exs es).getD i default=(x.co,x.mo));have hR':=Zvc hR;have hE':=Zvc hE;have hen':=Zvc hen;have htn':=Zvc htn;have hwn':=Zvc hwn;have hws':=Zvc hws;have hz':=Zvc hz;have ht':=Zvc ht;have hzn':=Zvc hzn;have htnd':=Zvc htnd;have hzt':=Zvc hzt;have hzo':=Zvc hzo;have hBA':=Zvc hBA;have htl:tn<=4:=by omega
 rw[hBA];obtain⟨i0,hi,hz0,hz1,hz2⟩:=info_parts info3;obtain⟨i1,hj,hj0,hj1,hj2⟩:=info_parts info31;obtain⟨X,hX⟩:∃X,exs es=X:=⟨_,rfl⟩;have hX':=Zvc hX;rw[hX]at fE |-;clear hR hE hen htn hwn hws hz ht hzn htnd hzt hzo hBA hT hW hX;go_enter func85,ntmps85;go_wp2;go_loopw [6,24] (fun v6 i wr=>∃(k:Nat)(xs:List IR),k<=np/\i=.int .i64 k/\Hid (RowsOwn wr (w.heap.size+2) v6 xs/\xs.map IR.l=proofRows X z t 0 (ws.take k))/\wr.heap[w.heap.size]?=some (.cells BA 137 (0,0))/\wr.heap[w.heap.size+1]?=some (.cells #[.int .i64 0,.int .i64 0,.slice none 0 0] 30 (0,0))/\Below w.heap.size w wr)(fun _ i _=>np-(intOf i).toNat);case atStart=>exact⟨0,[],Zxa _,rfl,⟨RowsOwn.nil _ _,by simp[proofRows]⟩,by(repeat (first|assumption|(refine Zz _ _ ?_;(simp;done))|refine ZB ?_|refine Zy ?_ _|refine ZA ?_ (by simp<;>omega) _)),by(repeat (first|assumption|(refine Zz _ _ ?_;(simp;done))|refine ZB ?_|refine Zy ?_ _|refine ZA ?_ (by simp<;>omega) _)),by go_grown⟩
 case round=>
  obtain⟨wo,hwo⟩:∃wo,wo=wr:=⟨_,rfl⟩;subst hwo;obtain⟨k,xs,hk,rfl,hrows,M0,M1,hbw⟩:=hrel;have s0:=ZI M0;have s1:=ZI M1;have MB:wo.heap[w.heap.size]?=some (.cells (ZV (.slice pA np pc) (.slice eA en ec) zv (.slice tA tn tc) z t).toArray 137 (0,0)):=by rw[hBA'.out];exact M0
  have cEv:=ZaA MB (k:=1) rfl;have cTv:=ZaA MB (k:=3) rfl;by_cases hlt:k<np
  ·have hkI:(k:Int)<(np:Int):=by omega
   have hk5:(k:Int)<5:=by omega
   obtain⟨bw,ow,rfl,hbwl,cw⟩:=fW.out wo hbw k hlt;obtain⟨u,hu⟩:∃u,ws[k]?=some u:=⟨_,ZvL (by rw[hwn'.out];exact hlt)⟩;have huD:ws.getD k 0=u:=by rw[ZvG,hu];rfl
   rw[huD]at cw;have cz:=ZaA MB (ZhU (.slice pA np pc) (.slice eA en ec) zv (.slice tA tn tc) z t k (by omega));have hsn:=Zvc (show proofRows X z t 0 (ws.take (k+1))=proofRows X z t 0 (ws.take k)++if k∈z then []else [ZbH X t k u]by rw[ZwA,hu];have:=ZkJ X z t (ws.take k) 0 u;rw[Zv5,ZwX (by rw[hwn'.out];omega),Zw9]at this;exact this);have hxn:Hid (xs.length<=k):=Zvc (by have h1:=congrArg List.length hrows.out.2;rw[Zv2]at h1;have h2:=ZhY X (t:=t) hzn'.out (ws.take k) 0;rw[Zv5,ZwX (by rw[hwn'.out];omega)]at h2;omega);clear hu huD MB;by_cases hkz:k∈z
   ·have hkzb:decide (k∈z)=true:=by simpa using hkz
    rw[hkzb]at cz;have hr2:=Zvc (show RowsOwn wo (w.heap.size+2) u6 xs/\xs.map IR.l=proofRows X z t 0 (ws.take (k+1))from⟨hrows.out.1,by rw[hsn.out,if_pos hkz,Zvj];exact hrows.out.2⟩);clear hkz hrows hsn;go_wp2;go_roundw;case rel=>exact⟨k+1,xs,by omega,by go_num,hr2.out,M0,M1,hbw⟩
    case measure=>simp[intOf]<;>omega
   ·have hkzb:decide (k∈z)=false:=by simpa using hkz
    rw[hkzb]at cz;have hr2:=Zvc (show proofRows X z t 0 (ws.take (k+1))=xs.map IR.l++[ZbH X t k u]from by rw[hsn.out,if_neg hkz,hrows.out.2]);have hrows':=Zvc hrows.out.1;clear hkz hrows hsn;go_wp2;go_loopw [9,37] (fun v9 j wi=>∃q:Nat,q<=tn/\j=.int .i64 q/\wi.ownsRow wo.heap.size 3 1 v9 (q+1) ((ZdI X t k q).map (Value.int .i64))/\Below wo.heap.size wo wi/\wo.heap.size<wi.heap.size) (fun _ j _=>tn-(intOf j).toNat);case atStart=>
     refine⟨0,Zxa _,rfl,?_,?_,?_⟩;·exact⟨rfl,.inr ⟨wo.heap.size,1,#[.int .i64 1],rfl,ZwO _,Zz _ _ rfl,ZwO _,by decide,rfl,rfl⟩⟩
     ·exact ZC _ _
     ·simp
    case round=>
     obtain⟨q,hq,rfl,hown,hbi,hsi⟩:=hrel;obtain⟨A9,c9,rfl⟩:=Zac hown;have N0:=(hbi.block _ s0).trans M0;have N1:=(hbi.block _ s1).trans M1;have NB:wr.heap[w.heap.size]?=some (.cells (ZV (.slice pA np pc) (.slice eA en ec) zv (.slice tA tn tc) z t).toArray 137 (0,0)):=by rw[hBA'.out];exact N0
     have cEv2:=ZaA NB (k:=1) rfl;have hbw2:=via hbw hbi;have t0:=ZI N0;have hown':=Zvc hown;clear hown NB;by_cases hqt:q<tn
     ·have hqI:(q:Int)<(tn:Int):=by omega
      obtain⟨bt,ot,rfl,hbt,ct⟩:=fT.out wr hbw2 q hqt;obtain⟨i,hi2⟩:∃i,t[q]?=some i:=⟨_,ZvL (by rw[htn'.out];exact hqt)⟩;have hiD:(Z1 t).getD q 0=(i:Int):=by rw[ZvG,Zc8 hi2];rfl
      rw[hiD]at ct;have hin:=ht'.out i (Zwn hi2);have hstep:=Zvc (Zqw (es:=X) (c:=k) hi2);have hiI:(i:Int)<(en:Int):=by omega
      obtain⟨x,be,oe,b2,o2,rfl,hbe,hb2,hxl,c1,c2,hsx,hg⟩:=fE.out wr hbw2 i k hin hlt;have hkL:(k:Int)<(x.co.length:Int):=by omega
      rw[hg]at hstep;obtain⟨y,hy⟩:∃y,x.co.getD k 0=y:=⟨_,rfl⟩;dsimp only at hstep;rw[hy]at c2 hsx hstep;have hwy:IntKind.i64.wrap (-y)=-y:=Zva _ (by omega);generalize x.co.length=L at*;clear hiD hi2 hy hg;go_wp2_with (at_builtin;refine wpList_append_own _ rfl _ _ 28 rfl wo.heap.size 3 i0 (.int .i64 0) 1 8 underlying28 hi hz0 hz1 hz2 rfl (by decide) _ _ _ rfl (hown'.out.alloc _) ⟨wr.heap.size,0,none⟩ 1 1 [.int .i64 (-y)] rfl rfl ?c1 ?c2 ?c3 ?c4 ?c5 ?_);case c1=>exact Zbq _ [.int .i64 (-y)] _ (by simp)
      case c2=>intro u hu;simp at hu;subst hu;rfl
      case c3=>unfold maxLen;omega
      case c4=>omega
      case c5=>simp;omega
      intro v' w3 hown3 hg3 _;have hbi3:Below wo.heap.size wo w3:=ZW (via hbi (ZC _ _)) hg3 fun b e=>(hown'.out.lt b e).1;have hsi3:wo.heap.size<w3.heap.size:=by have:=hg3.size;simp at this;omega
      have hown4:=Zvc (show w3.ownsRow wo.heap.size 3 1 v' (q+1+1) ((ZdI X t k (q+1)).map (Value.int .i64))from by rw[hstep.out,Zv9];exact hown3);clear hown3 hg3 hown' hstep;go_wp2;go_roundw;case rel=>exact⟨q+1,by omega,by go_num,hown4.out,hbi3,hsi3⟩
      case measure=>simp[intOf]<;>omega
     ·obtain rfl:q=tn:=by omega
      clear cEv2 hqt;go_wp2_with (at_builtin;refine wpList_append_lies _ rfl _ _ 28 rfl wo.heap.size 3 i0 (.int .i64 0) 1 8 underlying28 hi hz0 hz1 hz2 rfl (by decide) _ _ _ rfl (hown'.out.alloc _) ⟨wr.heap.size,0,none⟩ 1 1 [.int .i64 u] rfl rfl ?c1 ?c2 (by decide) ?c3 ?c4 ?c5 (wr.heap.size+1) ?c6 ?_);case c1=>exact Zbq _ [.int .i64 u] _ (by simp)
      case c2=>intro u hu;simp at hu;subst hu;rfl
      case c3=>unfold maxLen;omega
      case c4=>omega
      case c5=>simp;omega
      case c6=>simp
      intro g9 cap9 w3 hown3 hg3 hor3 hlt3;have hbi3:Below wo.heap.size wo w3:=ZW (via hbi (ZC _ _)) hg3 fun b e=>(hown'.out.lt b e).1;have hb9:=(hown3.lt g9 rfl).1;have hRo3:=Zvc (hrows'.out.below hbi3);have hx9:=Zvc (show At 1 Zc w3 (some ⟨g9,0,none⟩) (ZbH X t k u)from ZaJ (base:=wo.heap.size) (n:=q+1+1) (e:=3) (c:=cap9) (by rw[<-Zqx,Zv9,htn'.out];exact hown3));have hpl:=Zvc (show (ZbH X t k u).length=q+1+1 from by simp[ZbH,htn'.out]);have hne9:=Zvc (show some g9≠u6.ownBlock from fun e=>by have:=(hrows'.out.own.lt g9 e.symm).2;omega);have hsz3:wo.heap.size<w3.heap.size:=Nat.lt_of_le_of_lt hb9 hlt3;have hbw3:=via hbw hbi3;have P0:=(hbi3.block _ s0).trans M0;have P1:=(hbi3.block _ s1).trans M1;obtain⟨A6,c6,rfl⟩:=Zac hrows'.out.own;clear hown3 hg3 hor3 hown' N0 N1;have hxn5:=hxn.out;go_wp2_with (at_builtin;refine wpList_append_lies _ rfl _ _ 160 rfl (w.heap.size+2) 28 i1 (.slice none 0 0) 1 24 underlying160 hj hj0 hj1 hj2 rfl (by decide) _ _ _ rfl (hRo3.out.own.alloc _) ⟨w3.heap.size,0,none⟩ 1 1 [.slice (some ⟨g9,0,none⟩) (q+1+1) cap9] rfl rfl ?c1 ?c2 (by decide) ?c3 ?c4 ?c5 (w3.heap.size+1) ?c6 ?_);case c1=>exact Zbq _ [.slice (some ⟨g9,0,none⟩) (q+1+1) cap9] _ (by simp)
      case c2=>intro u hu;simp at hu;subst hu;rfl
      case c3=>unfold maxLen;omega
      case c4=>omega
      case c5=>simp;omega
      case c6=>simp
      intro g cap w4 hown4 hg4 hor4 hlt4;have hRo4:=Zvc (RowsOwn.push (x:=⟨some ⟨g9,0,none⟩,cap9,ZbH X t k u⟩) hRo3.out (ZC w3 _) rfl (hx9.out.below (ZC w3 _)) (by dsimp only;omega) (by simp;omega) hne9.out hg4 (by show w4.ownsRow _ 28 1 _ _ (_++[Value.slice (some ⟨g9,0,none⟩) (ZbH X t k u).length cap9]);rw[hpl.out];exact hown4) (by simpa using hor4));have hbw4:Below w.heap.size w w4:=ZW (via hbw3 (ZC _ _)) hg4 fun b e=>by have:=(hRo3.out.own.lt b e).1;omega
      have Q0:=Zal hg4 (Zy P0 _) (Zak hRo3.out.own (by omega));have Q1:=Zal hg4 (Zy P1 _) (Zak hRo3.out.own (by omega));have hmap:=Zvc (show (xs++[(⟨some ⟨g9,0,none⟩,cap9,ZbH X t k u⟩:IR)]).map IR.l=proofRows X z t 0 (ws.take (k+1))from by rw[hr2.out,Zv9];rfl);clear hown4 hg4 hor4 hRo3 hx9 hr2 P0 P1;go_wp2;go_roundw;case rel=>exact⟨k+1,_,by omega,by go_num,⟨hRo4.out,hmap.out⟩,Q0,Q1,hbw4⟩
      case measure=>simp[intOf]<;>omega
  ·obtain rfl:np=k:=by omega
   have hall:ws.take np=ws:=by rw[<-hwn'.out,ZwB]
   obtain⟨hro,hmap⟩:=hrows.out;rw[hall]at hmap;have hxl:xs.length=tn+1:=by
    have h1:=congrArg List.length hmap;rw[Zv2]at h1;have h2:=ZhY X (t:=t) hzn'.out ws 0;have h3:z.countP (inR 0 ws.length)=z.length:=by rw[List.countP_eq_length];intro x hx;have:=hz'.out x hx;have:=hwn'.out;simp[inR];omega
    have:=hzt'.out;have:=hwn'.out;have:=htn'.out;omega
   obtain⟨A6,c6,rfl⟩:=Zac hro.own;have hS:=Zvc (Zkc A6 xs c6 wo hro.rowsAt (fun x hx=>by have:=ZhZ X (z:=z) (t:=t) ws 0 x.l (by rw[<-hmap];exact Zwm.2 ⟨x,hx,rfl⟩);have:=htn'.out;omega) (by omega) (by omega) (by rw[hmap,<-hX'.out];exact Zh1 hR'.out ws 0 hws'.out));rw[hmap]at hS;rw[hxl]at hS |-;have hmap2:=Zvc hmap;have hxl2:=Zvc hxl;obtain⟨sl,hsl⟩:∃sl,Zb3 (proofRows X z t 0 ws)=sl:=⟨_,rfl⟩;have hsl':=Zvc hsl;unfold Zec at hS;rw[hsl]at hS;clear hsl hro hrows hall hlt MB cEv cTv hxl hmap;rcases sl with _|⟨l,den⟩
   ·dsimp only at hS;have hnone:=Zvc (show Zb4 X ws z t=none by unfold Zb4;rw[hsl'.out]);go_wp2_with (go_at_call 104;refine hS.out.mono ?_;rintro e w2 ⟨rfl,hb2⟩;have N1:=Zw hb2 M1;have C1:=bk3 N1;have hbw2:=via hbw hb2);refine bodyPost_ret (v:=.tuple #[.agg #[.int .i64 0,.int .i64 0,.slice none 0 0],.bool false]) ?_ rfl ⟨?_,by go_grown⟩;·simp[results,results85,go_sem,C1]
    ·unfold Zek;rw[hnone.out]
   ·dsimp only at hS;have hpl:(proofRows X z t 0 ws).length=tn+1:=by rw[<-hmap2.out,Zv2];exact hxl2.out
    obtain⟨hll,hdb,hdp,hls⟩:=ZhC hsl'.out (by omega) (by rw[<-hX'.out];exact Zh1 hR'.out ws 0 hws'.out);rw[hpl]at hll;rw[hll]at hS;have hll':=Zvc hll;have hls':=Zvc hls;clear hls hpl hll;go_wp2_with (go_at_call 104;refine hS.out.mono ?_;rintro e w2 ⟨⟨v,rfl,hown⟩,hb2⟩;obtain⟨A12,c12,rfl⟩:=Zac hown;have N0:=Zw hb2 M0;have N1:=Zw hb2 M1;have C1:=bk3 N1;have hbw2:=via hbw hb2;have hown':=Zvc hown;clear hown);have NB:w2.heap[w.heap.size]?=some (.cells (ZV (.slice pA np pc) (.slice eA en ec) zv (.slice tA tn tc) z t).toArray 137 (0,0)):=by rw[hBA'.out];exact N0
    have cEv:=ZaA NB (k:=1) rfl;have cTv:=ZaA NB (k:=3) rfl;have cPv:=ZaA NB (k:=0) rfl;obtain⟨lev,hlev⟩:∃lev,l.getD 0 0=lev:=⟨_,rfl⟩;have hl12:=ZaJ hown'.out;obtain⟨g12,hA12,hbo12,hb12,c0⟩:=Zeb hown'.out (k:=0) (u:=.int .i64 lev) (by rw[<-hlev];cases l with|nil=>have:=hll'.out;simp at this|cons x l=>rfl);subst hA12;have hlev':=Zvc hlev;have hl12':=Zvc hl12;clear hS hlev hl12 NB;have hsz2:=ZI N1;apply Zqz w 8 10 11 en (.cells (ZaP (List.replicate en 0)) 3 (0,0)) (.cells #[.int .i64 0,.int .i64 0,.slice none 0 0] 30 (0,0)) (fun h=>.cells #[.int .i64 den,.int .i64 lev,.slice (some ⟨h.b,0,none⟩) en en] 30 (0,0));case hm=>kernel_rfl
    case hB=>kernel_rfl
    case hB'=>intro g;kernel_rfl
    case hS=>kernel_rfl
    case hN=>kernel_rfl
    case hne=>decide
    case hkd=>kernel_rfl
    case hcl=>intro L _ o ho h;simp at ho;subst ho;simp[Region.binds]at h;exact⟨by simp[h],by simp[h]⟩
    case hw=>exact hbw2
    case hq=>
     intro g u hu hgc hbx hbX;have d0:=Zw hu N0;have NB:u.heap[w.heap.size]?=some (.cells (ZV (.slice pA np pc) (.slice eA en ec) zv (.slice tA tn tc) z t).toArray 137 (0,0)):=by rw[hBA'.out];exact d0
     have e1:=ZaA NB (k:=1) rfl;have e2:=(hu.cell (show (⟨g12,0,none⟩:Addr).block<_ from hb12)).trans c0;have z1:g12<u.heap.size:=ZwS hb12 hu.size;have z2:w.heap.size<u.heap.size:=ZI d0;simp only[mixL,mkMAS,yieldsC,Zvn,Zvq,Nat.reduceAdd,Nat.reduceBEq,Zw9,ZuW,ZuY,ZuR,ZuZ,ZuQ,if_true,if_false,ZuX,Nat.reduceEqDiff];repeat (go_big_quiet_step (fail))
     exact wpQuiet_nil rfl
    case hal1=>intro o ho g x hbx;simp only[ZvJ,ZvK,Zxi]at ho;subst ho;refine ZqL (v:=.int .i64 en) rfl (by kernel_rfl) (by kernel_rfl) ?_;exact Zd9 en (by have:=hen'.out;omega) x
    case hal2=>intro o ho g x;simp only[ZvJ,ZvK,Zxi]at ho;subst ho;kernel_rfl
    case hind=>intro j hj;simp only[Zwi,Zwt,or_false]at hj;rcases hj with rfl|rfl|rfl<;>(intro g h;kernel_rfl)
    case hs=>intro o ho g x hx hz;simp only[ZvJ,ZvK,Zxi]at ho;subst ho;exact⟨_,ZdG rfl rfl rfl rfl (by kernel_rfl) (by kernel_rfl) (by kernel_rfl) hz,(((OnlyB.refl _ _).set _ _).set _ _).set _ _,ZH (ZH (ZH hz _ rfl) _ rfl) _ rfl⟩
    case hend=>
    intro g u hB1 hB2 hBne hu hbw3 E1 E2;obtain⟨R,hR⟩:∃R,(g 8).b=R:=⟨_,rfl⟩;obtain⟨Q,hQ⟩:∃Q,(g 10).b=Q:=⟨_,rfl⟩;rw[hR]at hB1 hBne E1 E2;rw[hQ]at hB2 hBne E2;have hI:Hid (ZO 3 u R (List.replicate en 0)):=Zvc E1;rw[hR,hQ];clear hR hQ C1 cEv cTv cPv c0 E1 hbw3 M0 M1 g hbw hmap2 hxl2;have P0:=Zw hu N0;have NB:u.heap[w.heap.size]?=some (.cells (ZV (.slice pA np pc) (.slice eA en ec) zv (.slice tA tn tc) z t).toArray 137 (0,0)):=by rw[hBA'.out];exact P0
    have cTv:=ZaA NB (k:=3) rfl;clear NB P0;go_wp2;go_loopw [86] (fun i wr=>∃q:Nat,q<=tn/\i=.int .i64 q/\Hid (ZO 3 wr R (putW l 0 (t.take q) (List.replicate en 0)))/\wr.heap[Q]?=some (.cells #[.int .i64 den,.int .i64 lev,.slice (some ⟨R,0,none⟩) en en] 30 (0,0))/\Hid (∀j,j<q->¬l.getD (j+1) 0<0)/\Below w2.heap.size w2 wr) (fun i _=>tn-(intOf i).toNat);case atStart=>exact⟨0,Zxa _,rfl,hI.out,E2,fun j hj=>by omega,hu⟩
    case round=>
     clear hI E2 cTv;obtain⟨q,hq,rfl,hIq,hQb,hnn,hbr⟩:=hrel;have P0:=Zw hbr N0;have P1:=Zw hbr N1;have NB:wr.heap[w.heap.size]?=some (.cells (ZV (.slice pA np pc) (.slice eA en ec) zv (.slice tA tn tc) z t).toArray 137 (0,0)):=by rw[hBA'.out];exact P0
     have cTv:=ZaA NB (k:=3) rfl;have D:=bk3 hQb;have hbw4:=via hbw2 hbr;clear NB;by_cases hqt:q<tn
     ·have hqI:(q:Int)<(tn:Int):=by omega
      obtain⟨bt,ot,rfl,hbt,ct⟩:=fT.out wr hbw4 q hqt;obtain⟨i,hi2⟩:∃i,t[q]?=some i:=⟨_,ZvL (by rw[htn'.out];exact hqt)⟩;have hiD:(Z1 t).getD q 0=(i:Int):=by rw[ZvG,Zc8 hi2];rfl
      rw[hiD]at ct;have hin:=ht'.out i (Zwn hi2);have hiI:(i:Int)<(en:Int):=by omega
      have hstep:=Zvc (ZpT l (W:=List.replicate en 0) hi2);obtain⟨b9,o9,e9,-,cl⟩:=ZaF (hl12'.out.below hbr) (k:=q+1) (by rw[hll'.out];omega);cases e9;rw[Zw9]at cl;obtain⟨x,hx⟩:∃x,l.getD (q+1) 0=x:=⟨_,rfl⟩;rw[hx]at cl hstep;have hx':=Zvc hx;obtain⟨V,hV⟩:∃V,putW l 0 (t.take q) (List.replicate en 0)=V:=⟨_,rfl⟩;rw[hV]at hIq hstep;have hVl:V.length=en:=by rw[<-hV,Zh0,List.length_replicate]
      have ci:=hIq.out.loadD (k:=i) (by omega);have fi:=hIq.out.frozen i;have hsR:=hIq.out.size;have hs12:g12<wr.heap.size:=ZwS hb12 hbr.size;have hsQ:=ZI hQb;have hw1:IntKind.i64.wrap ((q:Int)+1)=(q:Int)+1:=Zva _ (by omega);have hVl':=Zvc hVl;clear hiD hi2 hx hV hVl;go_wp2;refine Zav w 9 (by kernel_rfl) (by kernel_rfl) (by go_grown) ?_;intro hgc hbx;simp only[ZwD,ZwF,Zvt,Zvu];repeat (go_big_quiet_step (fail))
      refine wpQuiet_nil ?_;intro wb hb_wb hw_wb hs_wb;clear hgc hbx;have hIb:=Zvc (hIq.out.below hb_wb);have hQ2:=Zw hb_wb hQb;have R1:=Zw hb_wb P1;have C1:=bk3 R1;have hbr2:=via hbr hb_wb;have ci2:=hIb.out.loadD (k:=i) (by rw[hVl'.out];exact hin);have fi2:=hIb.out.frozen i;have cl2:=(hb_wb.cell (show (⟨g12,q+1,none⟩:Addr).block<_ from hs12)).trans cl;have hn12:g12≠R:=by omega
      have hn1:w.heap.size+1≠R:=by omega
      have hI2:=Zvc (show ZO 3 (wb.setCell ⟨R,i,none⟩ (.int .i64 x)) R (putW l 0 (t.take (q+1)) (List.replicate en 0))from by have:=hIb.out.store i x;rwa [<-hstep.out]at this);clear hIq hQb P0 P1 D ci fi cl cTv ct hIb;by_cases hx0:x<0
      ·have hnone:=Zvc (show Zb4 X ws z t=none by unfold Zb4;simp only[hsl'.out];rw[if_pos (ZpU (k:=q) (by rw[htn'.out];exact hqt) (by rw[hx'.out];exact hx0))]);go_wp2;refine bodyPost_ret (v:=.tuple #[.agg #[.int .i64 0,.int .i64 0,.slice none 0 0],.bool false]) ?_ rfl ⟨?_,?_⟩;·refine Zat (p:=4) (u:=5) (ad:=⟨w.heap.size+1,0,none⟩) (v:=.agg #[.int .i64 0,.int .i64 0,.slice none 0 0]) rfl (by rfl) (Z5 (T:=30) (cs:=[.int .i64 0,.int .i64 0,.slice none 0 0]) (by kernel_rfl) (by kernel_rfl) ?_);exact ZH (ZH (ZH (ZA R1 (by first|omega|(dsimp only;omega)) _) _ rfl) _ rfl) _ rfl
       ·unfold Zek;rw[hnone.out]
       ·first|go_grown|(repeat' (first|exact hw_wb|refine ZuL ?_ (by dsimp only;omega) _))
      ·go_wp2;go_roundw;case rel=>exact⟨q+1,by omega,by go_num,hI2.out,ZA hQ2 (by first|omega|(dsimp only;omega)) _,(fun j hj=>by
        by_cases hjq:j=q;·rw[hjq,hx'.out];exact hx0
        ·have:=hnn.out j (by omega);omega),hbr2.setCell (by first|omega|(dsimp only;omega)) _⟩
       case measure=>simp[intOf]<;>omega
     ·obtain rfl:tn=q:=by omega
      have hall:t.take tn=t:=by rw[<-htn'.out,ZwB]
      rw[hall]at hIq;obtain⟨W,hW⟩:∃W,putW l 0 t (List.replicate en 0)=W:=⟨_,rfl⟩;rw[hW]at hIq;have hWl:=Zvc (show W.length=en by rw[<-hW,Zh0,List.length_replicate]);have hWs:=Zvc (show Small 1228800000000000 W by rw[<-hW];exact Zke hls'.out t 0 _ fun x hx=>by rw[List.eq_of_mem_replicate hx];decide);have hprf:=Zvc (show Zb4 X ws z t=if Zc3 X den lev W 0 ws=true then some {den:=den / (gcdL 0 (den::lev::W):Int),lev:=lev / (gcdL 0 (den::lev::W):Int),W:=W.map (· / (gcdL 0 (den::lev::W):Int))} else none by
       have hXl:X.length=en:=by rw[<-hX'.out,ZaR];exact hen'.out
       unfold Zb4;simp only[hsl'.out];rw[if_neg (by rw[ZpV (by rw[htn'.out];exact hnn.out)];decide),hXl,hW,hlev'.out]);clear hqt hall hW hnn cTv D P0 P1;go_wp2;go_loopw [110] (fun i wr=>∃k:Nat,k<=np/\i=.int .i64 k/\Hid (ZO 3 wr R W)/\wr.heap[Q]?=some (.cells #[.int .i64 den,.int .i64 lev,.slice (some ⟨R,0,none⟩) en en] 30 (0,0))/\Hid (∀j,j<k->¬(ws.getD j 0*den+putsL X W j<lev))/\Below w2.heap.size w2 wr)(fun i _=>np-(intOf i).toNat);case atStart=>exact⟨0,Zxa _,rfl,hIq.out,hQb,fun j hj=>by omega,hbr⟩
      case round=>
       clear hIq hQb hbr hbw4;obtain⟨k,hk,rfl,hIq,hQb,hlv,hbr⟩:=hrel;have P0:=Zw hbr N0;have P1:=Zw hbr N1;have NB:wr.heap[w.heap.size]?=some (.cells (ZV (.slice pA np pc) (.slice eA en ec) zv (.slice tA tn tc) z t).toArray 137 (0,0)):=by rw[hBA'.out];exact P0
       have cPv:=ZaA NB (k:=0) rfl;have cEv:=ZaA NB (k:=1) rfl;have D:=bk3 hQb;have hbw4:=via hbw2 hbr;have hsR:=hIq.out.size;have hsQ:=ZI hQb;have hs0:=ZI P0;clear NB;by_cases hkn:k<np
       ·have hkI:(k:Int)<(np:Int):=by omega
        obtain⟨bw,ow,rfl,hbwl,cw⟩:=fW.out wr hbw4 k hkn;obtain⟨u,hu⟩:∃u,ws.getD k 0=u:=⟨_,rfl⟩;rw[hu]at cw;obtain⟨T,hT⟩:∃T,putsL X W k=T:=⟨_,rfl⟩;have hPu:=Zvc fun(x:Grew wr)=>(by have:=Zka pA eA (some ⟨R,0,none⟩) np pc ec en np es W den lev k x.val hR'.out (hE'.out.below (via hbw4 x.ok)) (hIq.out.below x.ok).at' (by rw[hWl.out,hen'.out]) hkn (fun y hy=>ZwP (hWs.out y hy) (by decide));rw[hen'.out,hWl.out,hX'.out,hT]at this;exact this:Calls prog 54 #[.agg #[(.slice pA np pc),(.slice eA en ec)],.agg #[.int .i64 den,.int .i64 lev,.slice (some ⟨R,0,none⟩) en en],.int .i64 k] x.val fun e w'=>e=.returned (.int .i64 T)/\Below x.val.heap.size x.val w');have hTb:T.natAbs<=8*(1228800000000000*20):=by have:=ZfW (X:=20) (Y:=1228800000000000) k X W X.length (by rw[<-hX'.out];exact hR'.out.exs_co) hWs.out;rw[ZwB,<-hX'.out,ZaR,ZwC (by rw[hWl.out,hen'.out];exact ZwO _),hX'.out,hT]at this;refine ZwP this (ZwZ _ hE8)
        have hub:u.natAbs<=400:=by rw[<-hu];exact hws'.out.get k
        have hud:=Zbo hub hdb;obtain⟨y,hy⟩:∃y,u*den=y:=⟨_,rfl⟩;rw[hy]at hud;obtain⟨s,hs⟩:∃s,y+T=s:=⟨_,rfl⟩;have hw1:IntKind.i64.wrap (u*den)=y:=by rw[hy];exact Zva _ (by omega)
        have hw2:IntKind.i64.wrap (y+T)=s:=by rw[hs];exact Zva _ (by omega)
        have hsum:=Zvc (show ws.getD k 0*den+putsL X W k=s by rw[hu,hT,hy,hs]);clear hu hT hTb hub hud hy hs;go_wp2;refine Zav w 11 (by kernel_rfl) (by kernel_rfl) (by go_grown) ?_;intro hgc hbx;simp only[ZwD,ZwF,Zvt,Zvu];repeat (go_big_quiet_step ((go_at_call 54;with_reducible exact Grew.call (hPu.out _))))
        refine wpQuiet_nil ?_;intro wb hb_wb hw_wb hs_wb;clear hgc hbx;have hIb:=Zvc (hIq.out.below hb_wb);have hQ2:=Zw hb_wb hQb;have R1:=Zw hb_wb P1;have C1:=bk3 R1;have hbr2:=via hbr hb_wb;clear hIq hQb P0 P1 D cPv cEv cw hPu;by_cases hs0:s<lev
        ·have hnone:=Zvc (show Zb4 X ws z t=none by rw[hprf.out,ZpW (j:=k) (by rw[hwn'.out];exact hkn) (by rw[hsum.out];exact hs0)];rfl);go_wp2;refine bodyPost_ret (v:=.tuple #[.agg #[.int .i64 0,.int .i64 0,.slice none 0 0],.bool false]) ?_ rfl ⟨?_,?_⟩;·refine Zat (p:=4) (u:=5) (ad:=⟨w.heap.size+1,0,none⟩) (v:=.agg #[.int .i64 0,.int .i64 0,.slice none 0 0]) rfl (by rfl) (Z5 (T:=30) (cs:=[.int .i64 0,.int .i64 0,.slice none 0 0]) (by kernel_rfl) (by kernel_rfl) ?_);exact ZH (ZH (ZH (R1) _ rfl) _ rfl) _ rfl
         ·unfold Zek;rw[hnone.out]
         ·first|go_grown|(repeat' (first|exact hw_wb|refine ZuL ?_ (by dsimp only;omega) _))
        ·go_wp2;go_roundw;case rel=>exact⟨k+1,by omega,by go_num,hIb.out,hQ2,(fun j hj=>by
          by_cases hjk:j=k;·rw[hjk,hsum.out];exact hs0
          ·exact Int.not_lt.2 (hlv.out j (by omega))),hbr2⟩
         case measure=>simp[intOf]<;>omega
       ·obtain rfl:np=k:=by omega
        have hyes:=hprf.out;rw[ZpX (fun j hj=>hlv.out j (by rw[hwn'.out]at hj;exact hj)),if_pos rfl]at hyes;have hG0:0<gcdL 0 (den::lev::W):=Ze0 den (by simp) (by omega);have hdv:=(ZdA (den::lev::W) 0).2;have hDi:=Zvc fun A c w' hA=>Zhu A (den::lev::W) c w' hA (by simp only[Zv0];rw[hWl.out];have:=hen'.out;omega) (by
         intro x hx;rcases Zwi.1 hx with rfl|hx;·exact ZwP hdb (by decide)
         ·rcases Zwi.1 hx with rfl|hx;·rw[<-hlev'.out];exact ZwP (hls'.out.get 0) (by decide)
          ·exact ZwP (hWs.out x hx) (by decide));have hll2:(den::lev::W).length=2+en:=by simp only[Zv0];rw[hWl.out];omega
        rw[hll2]at hDi;obtain⟨gI,hgI⟩:∃gI:Int,((gcdL 0 (den::lev::W):Nat):Int)=gI:=⟨_,rfl⟩;rw[hgI]at hyes hdv hDi;have hg0:0<gI:=by omega
        have hgn:¬gI=0:=by omega
        have hgb:(gI==0)=false:=by simpa using hgn
        have hw1:IntKind.i64.wrap (den.tdiv gI)=den / gI:=ZcB hg0 (hdv den (by simp)) hdb (by decide);have hw2:IntKind.i64.wrap (lev.tdiv gI)=lev / gI:=ZcB hg0 (hdv lev (by simp)) (by rw[<-hlev'.out];exact hls'.out.get 0) (by decide);have hwW:=Zvc fun j (hj:j<en)=>(ZcB hg0 (hdv (W.getD j 0) (by
         have hj2:j<W.length:=by rw[hWl.out];exact hj
         rw[ZvG,ZvL hj2];exact Zwj _ (Zwj _ (ZvX hj2)))) (hWs.out.get j) (by decide):IntKind.i64.wrap ((W.getD j 0).tdiv gI)=W.getD j 0 / gI);have hyes':=Zvc hyes;have hlitO:=Zvc fun(x:World)=>(⟨rfl,.inr ⟨x.heap.size,2,#[.int .i64 den,.int .i64 lev],rfl,ZwO _,Zz _ _ rfl,ZwO _,by decide,rfl,rfl⟩⟩:(x.alloc (.cells #[.int .i64 den,.int .i64 lev] 3 (0,0))).ownsRow x.heap.size 3 1 (.slice (some ⟨x.heap.size,0,none⟩) 2 2) 2 [.int .i64 den,.int .i64 lev]);clear hyes hdv hG0 hgI hll2 hprf hlv hkn cPv cEv;go_wp2_with (at_builtin;refine wpList_append_own _ rfl _ _ 28 rfl wr.heap.size 3 i0 (.int .i64 0) 1 8 underlying28 hi hz0 hz1 hz2 rfl (by decide) _ _ _ rfl (hlitO.out wr) ⟨R,0,none⟩ en en (W.map (Value.int .i64)) rfl ?c0 ?c1 ?c2 ?c3 ?c4 ?c5 ?_);case c0=>rw[Zv2,hWl.out,Zw0]
        case c1=>
         intro j u hu;rw[ZvP]at hu;obtain⟨y,hy,rfl⟩:=Zxf.1 hu;have:=(hIq.out.alloc (.cells #[.int .i64 den,.int .i64 lev] 3 (0,0))).load hy;have e:Addr.add ⟨R,0,none⟩ j=⟨R,j,none⟩:=by unfold Addr.add;split<;>simp_all
         rw[e];exact this
        case c2=>intro u hu;obtain⟨y,-,rfl⟩:=Zwm.1 hu;rfl
        case c3=>have:=hen'.out;unfold maxLen;omega
        case c4=>have:=hen'.out;omega
        case c5=>simp
        intro v4 w4 hown4 hg4 _;obtain⟨A4,c4,rfl⟩:=Zac hown4;have hbx4:Below wr.heap.size wr w4:=ZW (ZC wr _) hg4 fun b e=>by cases e;exact ZwO _
        have hat5:=Zvc (show At 1 Zc w4 A4 (den::lev::W)from ZaJ (l:=den::lev::W) hown4);have hI4:=Zvc (hIq.out.below hbx4);have hQ4:=Zw hbx4 hQb;have R4:=Zw hbx4 P1;have hbr4:=via hbr hbx4;clear hown4 hg4 hbx4 hIq hQb P0 P1 D hbr hbw4;go_wp2_with (go_at_call 80;refine(hDi.out _ _ _ hat5.out).mono ?_;rintro e w5 ⟨rfl,hb5⟩);have hI5:=Zvc (hI4.out.below hb5);have hQ5:=Zw hb5 hQ4;have R5:=Zw hb5 R4;have hbr5:=via hbr4 hb5;clear hI4 hQ4 R4 hbr4 hb5 hat5 hDi hlitO;apply ZqA w2 1 5 9 11 Q (.int .i64 den) (.int .i64 lev) (fun a b=>.cells #[.int .i64 (if a then den / gI else den),.int .i64 (if b then lev / gI else lev),.slice (some ⟨R,0,none⟩) en en] 30 (0,0));case hm=>kernel_rfl
        case hB=>kernel_rfl
        case hB'=>intro g;kernel_rfl
        case hS=>kernel_rfl
        case hN=>kernel_rfl
        case hne=>decide
        case hkd=>kernel_rfl
        case hw=>exact hbr5
        case hb=>exact hB2
        case hb0=>exact hQ5
        case hcl=>
         intro L hc;refine⟨⟨fun h=>?_,fun h=>?_⟩,fun o ho h=>?_,fun o ho h=>?_⟩;·have h2:=hc 9 _ rfl h;simp[Region.binds]at h2;exact⟨by simp[h2],by simp[h2]⟩
         ·have h2:=hc 11 _ rfl h;simp[Region.binds]at h2;exact⟨by simp[h2],by simp[h2]⟩
         ·simp at ho;subst ho;simp[Region.binds]at h;exact⟨by simp[h],by simp[h]⟩
         ·simp at ho;subst ho;simp[Region.binds]at h;exact⟨by simp[h],by simp[h]⟩
        case hq=>
         intro g u hu hgc hbx hbX;dsimp only[mixL,yieldsC,Zvn,Zvq];simp only[mixL,yieldsC,Zvn,Zvq,Nat.reduceAdd,Nat.reduceBEq,Zw9,ZuW,ZuY,ZuR,ZuZ,ZuQ,if_true,if_false,ZuX,Nat.reduceEqDiff];repeat (go_big_quiet_step (fail))
         exact wpQuiet_nil rfl
        case hp=>intro o ho g x hx;simp only[ZvJ,ZvK,Zxi]at ho;subst ho;have D:=bk3 hx;exact ZkL (b:=Q) (off:=0) rfl (by kernel_rfl) (by kernel_rfl) (by simpa using D.1)
        case hqq=>intro o ho g x hx;simp only[ZvJ,ZvK,Zxi]at ho;subst ho;have D:=bk3 hx;exact ZkL (b:=Q) (off:=1) rfl (by kernel_rfl) (by kernel_rfl) (by simpa using D.2.1)
        case hind=>intro j hj;simp only[Zwi,Zwt,or_false]at hj;rcases hj with rfl|rfl|rfl|rfl<;>(intro g h;kernel_rfl)
        case hs1=>intro o ho f g x hx;simp only[ZvJ,ZvK,Zxi]at ho;subst ho;have D:=bk3 hx;exact⟨_,ZkM (n:=den / gI) rfl (by kernel_rfl) (by kernel_rfl) (by kernel_rfl) D.1 (by simp[D]),(OnlyB.refl _ _).set _ _,ZH hx _ rfl⟩
        case hs2=>intro o ho f g x hx;simp only[ZvJ,ZvK,Zxi]at ho;subst ho;have D:=bk3 hx;exact⟨_,ZkM (n:=lev / gI) rfl (by kernel_rfl) (by kernel_rfl) (by kernel_rfl) D.2.1 (by simp[D]),(OnlyB.refl _ _).set _ _,ZH hx _ rfl⟩
        intro g x hg hbr6 hQ6;simp only[if_true]at hQ6;have hI6:=Zvc (show ZO 3 x R W from(hg.block R hI5.out.size (by simpa using hBne)).trans hI5.out);have R6:=Zal hg R5 (by have:=ZI N1;simp;omega);have hd2:=hw1;obtain⟨d2,hd2⟩:∃d2,den / gI=d2:=⟨_,rfl⟩;obtain⟨l2,hl2⟩:∃l2,lev / gI=l2:=⟨_,rfl⟩;rw[hd2,hl2]at hQ6 hyes';clear hg hI5 hQ5 R5 hbr5 hw1 hw2 hd2 hl2 g;have D:=bk3 hQ6;go_wp2;go_loopw [151] (fun i wr=>∃k:Nat,k<=en/\i=.int .i64 k/\Hid (ZO 3 wr R ((W.take k).map (· / gI)++W.drop k))/\wr.heap[Q]?=some (.cells #[.int .i64 d2,.int .i64 l2,.slice (some ⟨R,0,none⟩) en en] 30 (0,0))/\Below w2.heap.size w2 wr)(fun i _=>en-(intOf i).toNat);case atStart=>exact⟨0,Zxa _,rfl,Zvc (by simpa using hI6.out),hQ6,hbr6⟩
        case round=>
         clear hI6 hQ6 hbr6 D R6;obtain⟨k,hk,rfl,hI7,hQ7,hbr7⟩:=hrel;have D:=bk3 hQ7;have hsR:=hI7.out.size;have hsQ:=ZI hQ7;by_cases hkn:k<en
         ·have hkI:(k:Int)<(en:Int):=by omega
          have hkW:k<W.length:=by rw[hWl.out];exact hkn
          have ci:=hI7.out.load (Zki (g:=gI) hkW);have fi:=hI7.out.frozen k;have hI8:=Zvc (hI7.out.store k (W.getD k 0 / gI));rw[Zkh hkW]at hI8;have hww:=hwW.out k hkn;have hen8:en<=8:=by have:=hen'.out;omega
          obtain⟨y,hy⟩:∃y,W.getD k 0=y:=⟨_,rfl⟩;rw[hy]at ci hww hI8;clear hy hkW;go_wp2;go_roundw;case rel=>
           refine⟨k+1,by omega,by go_num,hI8.out,ZA hQ7 ?_ _,hbr7.setCell ?_ _⟩;·exact fun e=>hBne e.symm
           ·exact hB1
          case measure=>simp[intOf]<;>omega
         ·obtain rfl:en=k:=by omega
          have P1:=Zw hbr7 N1;have hI8:=hI7.out;rw[show W.take en=W by rw[<-hWl.out,ZwB],show W.drop en=[]by rw[<-hWl.out,List.drop_length],Zvj]at hI8;have hbw7:=via hbw2 hbr7;have C1:=bk3 P1;have hRs:R≠w.heap.size+1:=by have:=ZI N1;omega
          clear hI7;go_wp2;refine bodyPost_ret (v:=.tuple #[.agg #[.int .i64 d2,.int .i64 l2,.slice (some ⟨R,0,none⟩) en en],.bool true]) ?_ rfl ⟨?_,?_⟩;·refine Zat (p:=4) (u:=5) (ad:=⟨w.heap.size+1,0,none⟩) (v:=.agg #[.int .i64 d2,.int .i64 l2,.slice (some ⟨R,0,none⟩) en en]) rfl (by rfl) (Z5 (T:=30) (cs:=[.int .i64 d2,.int .i64 l2,.slice (some ⟨R,0,none⟩) en en]) (by kernel_rfl) (by kernel_rfl) ?_);exact ZH (ZH (ZH P1 _ rfl) _ rfl) _ rfl
          ·unfold Zek;rw[hyes'.out];exact⟨_,_,rfl,ZpY (((hI8.other _ _ (fun e=>hRs e.symm)).other _ _ (fun e=>hRs e.symm)).other _ _ (fun e=>hRs e.symm)) (by simp[hWl.out]) (by have:=hen'.out;omega) (ZwP hbw2.size hB1)⟩
          ·exact((hbw7.setCell (by dsimp only;omega) _).setCell (by dsimp only;omega) _).setCell (by dsimp only;omega) _
variable {w:World} {base n c g:Nat} {e:TypeId} {xs:List Value}
theorem ZqN(h:w.ownsRow base e 1 (.slice (some ⟨g,0,none⟩) n c) n xs) {k:Nat} (hk:k<n)(v:Value):(w.setCell ⟨g,k,none⟩ v).ownsRow base e 1 (.slice (some ⟨g,0,none⟩) n c) n (xs.set k v):=by
 obtain⟨h1,h2⟩:=h;refine⟨by simpa using h1,?_⟩;rcases h2 with⟨h2,-⟩|⟨g',cap,cur,h3,h4,h5,h6,h7,h8,h9⟩;·cases h2
 ·cases h3;refine .inr ⟨g,c,cur.setIfInBounds k v,rfl,h4,?_,h6,h7,by simpa using h8,?_⟩;·simp only[World.setCell];rw[Zur,if_pos rfl,h5];simp
  ·rw[Zw0]at h9 |-;rw[<-h9];apply Zvz;intro j;rw[ZvU,Zuy,Zuv,List.getElem?_set,ZvU,Zv5,Array.length_toList,h8];by_cases hj:j<n
   ·simp only[hj,if_true];by_cases hjk:k=j;·subst hjk;rw[if_pos rfl,if_pos rfl,if_pos (by omega),if_pos (by omega)]
    ·rw[if_neg hjk,if_neg hjk,Zuy]
   ·simp only[hj,if_false];rw[if_neg (by omega)]
theorem ZqO(h:w.ownsRow base e 1 (.slice (some ⟨g,0,none⟩) n c) n xs)(k:Nat):w.frozen? ⟨g,k,none⟩=false:=by
 rcases h.2 with⟨h2,-⟩|⟨g',cap,cur,h3,h4,h5,h6,h7,h8,h9⟩;·cases h2
 ·cases h3;unfold World.frozen?;rw[h5];simp
theorem ZkW(nm:ByteArray)(cA pA:Option Addr)(co l:List Int)(cc pc np:Nat)(mo den:Int)(w:World)(hC:At 1 Zc w cA co)(hP:At 1 Zc w pA l)(hco:co.length=np)(hl:l.length=np)(h8:np<=8)(sc:Small 20 co)(hmo:mo.natAbs<=20)(sl:Small 10000000000000000 l)(hden:den.natAbs<=10000000000000000):Calls prog 63 #[.agg #[.string nm,.slice cA np cc,.int .i64 mo],.agg #[.int .i64 den,.slice pA np pc]] w fun e w'=>e=.returned (.bool (decide (dotL co l<=mo*den)))/\Below w.heap.size w w':=by
 have hD:=Zvc fun W (hb:Below w.heap.size w W)=>(by have:=ZfX cA pA co l cc pc W (hC.below hb) (hP.below hb) (by omega) (by omega) 20 10000000000000000 (by decide) sc sl;rw[hco,hl]at this;exact this:Calls prog 64 #[.slice cA np cc,.slice pA np pc] W fun e w'=>e=.returned (.int .i64 (dotL co l))/\W=w');have hm:=Zbo hmo hden;obtain⟨y,hy⟩:∃y,mo*den=y:=⟨_,rfl⟩;rw[hy]at hm;have hw1:IntKind.i64.wrap (mo*den)=y:=by rw[hy];exact Zva _ (by omega)
 rw[hy];obtain⟨d,hd⟩:∃d,dotL co l=d:=⟨_,rfl⟩;rw[hd]at hD |-;clear hy hd hm hC hP hco hl sc sl;go_enter func63,ntmps63;go_wp2;obtain⟨w1,hw⟩:∃w1,w1=w:=⟨_,rfl⟩;refine ZbA w (by kernel_rfl) (by kernel_rfl) (by go_grown) ?_;intro hgc hbx;repeat (go_big_quiet_step ((go_at_call 64;with_reducible exact Zd (hD.out _ (hbx.out _)))))
 refine wpQuiet_nil ?_;intro wb hb_wb hw_wb hs_wb;clear hgc hbx;go_wp2;go_ret;exact⟨rfl,by assumption⟩
variable {n k np:Nat} {es:List En} {l:List Int} {den:Int}
theorem ZqP(h:k<n):(List.replicate k (1:Int)++List.replicate (n-k) 0).set k 1=List.replicate (k+1) 1++List.replicate (n-(k+1)) 0:=by obtain⟨r,hr⟩:∃r,n-k=r+1:=⟨n-k-1,by omega⟩;rw[hr,show n-(k+1)=r by omega,Zwx _ _ (by simp),List.length_replicate,Nat.sub_self,List.replicate_succ,List.replicate_succ' (n:=k)];simp
theorem ZkX{i:Nat} (h:i<n):(List.replicate n (0:Int)).set i 1=ZaE n i:=by
 apply Zvz;intro j;rw[List.getElem?_set];unfold ZaE;rw[ZvP];by_cases hj:j<n
 ·rw[List.getElem?_range hj];by_cases hji:i=j;·subst hji;simp[h]
  ·have:¬j=i:=fun e=>hji e.symm;simp[hji,this,List.getElem?_replicate,hj]
 ·rw[ZvM (by simp;omega)];have:i≠j:=by omega
  simp[this,hj]
theorem Zh2(h:RightE es np)(z t:List Nat):Zcn (ZaQ np (exs es) z t):=by
 intro row hr;simp only[ZaQ,Zwi,Zwf,Zwm]at hr;rcases hr with rfl|⟨i,-,rfl⟩|⟨i,-,rfl⟩;·intro x hx;rw[List.eq_of_mem_replicate hx];decide
 ·intro x hx;obtain⟨j,-,rfl⟩:=Zwm.1 hx;split<;>decide
 ·intro x hx;have hs:=ZkV h i;have hs2:((exs es).getD i default).2.natAbs<=20:=by rw[ZvG];cases hi:(exs es)[i]? with|none=>simp[default,instInhabitedProd]|some x=>exact h.exs_mo x (Zwn hi)
  rcases Zwf.1 hx with hx|hx;·obtain⟨c,hc⟩:=List.mem_iff_getElem?.1 hx;have:=hs c;rw[ZvG,hc]at this;exact ZwP this (by decide)
  ·rw[Zwp]at hx;subst hx;exact ZwP hs2 (by decide)
theorem ZkY(np:Nat)(es:List Ex)(z t:List Nat):(ZaQ np es z t).length=z.length+t.length+1:=by simp[ZaQ]
theorem ZqQ(h:RightE es np) {z t:List Nat} (ht:∀i∈t,i<es.length):∀row∈ZaQ np (exs es) z t,row.length=np+1:=by
 intro row hr;simp only[ZaQ,Zwi,Zwf,Zwm]at hr;rcases hr with rfl|⟨i,-,rfl⟩|⟨i,hi,rfl⟩;·simp
 ·simp[ZaE]
 ·have hl:=ht i hi;rw[ZvZ,Ze4 (ZvL hl),(h.co _ (ZvX hl)).1];rfl
theorem ZqR(hk:k<l.length)(h:l.getD k 0<0):l.any (·<0)=true:=by rw[Zvh];refine⟨l[k],ZvX hk,?_⟩;rw[ZvG,ZvL hk]at h;simpa using h
theorem ZqS(h:∀k,k<l.length->¬l.getD k 0<0):l.any (·<0)=false:=by rw[Zvg];intro x hx;obtain⟨k,hk,rfl⟩:=List.getElem_of_mem hx;have:=h k hk;rw[ZvG,ZvL hk]at this;simpa using this
theorem ZqT{es:List Ex} (hk:k<es.length)(h:¬dotL (es.getD k default).1 l<=(es.getD k default).2*den):es.any (fun x=>!decide (dotL x.1 l<=x.2*den))=true:=by rw[Zvh];refine⟨es[k],ZvX hk,?_⟩;rw[ZvG,ZvL hk]at h;simpa using h
theorem ZqU{es:List Ex} (h:∀k,k<es.length->dotL (es.getD k default).1 l<=(es.getD k default).2*den):es.any (fun x=>!decide (dotL x.1 l<=x.2*den))=false:=by rw[Zvg];intro x hx;obtain⟨k,hk,rfl⟩:=List.getElem_of_mem hx;have:=h k hk;rw[ZvG,ZvL hk]at this;simpa using this
theorem RowsOwn.one{W:World} {base B:Nat} (h:ZO 3 W B l)(hb:base<=B)(hl:l.length=n):RowsOwn (W.alloc (.cells #[.slice (some ⟨B,0,none⟩) n n] 28 (0,0))) base (.slice (some ⟨W.heap.size,0,none⟩) 1 1) [⟨some ⟨B,0,none⟩,n,l⟩]:=by
 have hs:=h.size;refine⟨⟨rfl,.inr ⟨W.heap.size,1,_,rfl,by omega,Zz _ _ rfl,ZwO _,by decide,rfl,?_⟩⟩,fun x hx=>?_⟩;·simp[hl]
 ·rw[Zwp]at hx;subst hx;refine⟨(h.alloc _).at',fun g hg=>?_⟩;cases hg;refine⟨hb,by simp;omega,fun e=>?_⟩;cases e;exact ZwR _ hs
def Zel(q:Option (List Int×Int))(np n0:Nat)(e:Ending)(w':World):Prop:=match q with|none=>e=.returned (.tuple #[.agg #[.int .i64 0,.slice none 0 0],.bool false])|some (m,d)=>∃A c,e=.returned (.tuple #[.agg #[.int .i64 d,.slice A np c],.bool true])/\w'.ownsRow n0 3 1 (.slice A np c) np (m.map (Value.int .i64))
theorem ZqV(pA eA zA tA:Option Addr)(np pc en ec zn zc tn tc:Nat)(es:List En)(z t:List Nat)(w:World)(hR:RightE es np)(hE:Zaw w eA es)(hen:es.length=en)(hZ:At 1 Zc w zA (Z1 z))(hzn:z.length=zn)(hT:At 1 Zc w tA (Z1 t))(htn:t.length=tn)(h5:np<=5)(hz:∀i∈z,i<np)(ht:∀i∈t,i<en)(hzt:z.length+t.length+1=np):Calls prog 86 #[.agg (ZV (.slice pA np pc) (.slice eA en ec) (.slice zA zn zc) (.slice tA tn tc) z t).toArray] w fun e w'=>Zel (Zbe np (exs es) z t) np w.heap.size e w'/\Below w.heap.size w w':=by
 obtain⟨BA,hBA⟩:∃BA,(ZV (.slice pA np pc) (.slice eA en ec) (.slice zA zn zc) (.slice tA tn tc) z t).toArray=BA:=⟨_,rfl⟩;have hE8:=hR.n8;have fZ:=Zvc fun W (hb:Below w.heap.size w W) k (hk:k<zn)=>ZaF (hZ.below hb) (k:=k) (by rw[Zfb];omega);have fT:=Zvc fun W (hb:Below w.heap.size w W) k (hk:k<tn)=>ZaF (hT.below hb) (k:=k) (by rw[Zfb];omega);have fE:=Zvc fun W (hb:Below w.heap.size w W) i (hi:i<en)=>(by
  have hi':i<es.length:=by omega
  obtain⟨b,o,hA,hlt,hcc⟩:=(hE.below hb).1 i _ (ZvL hi');have hx:=ZvX hi';obtain⟨h1,h2,h3⟩:=hR.co _ hx;refine⟨es[i],b,o,hA,hlt,h1,h2,h3,?_,?_,hcc 2 _ rfl,(hE.below hb).2 _ hx,Ze4 (ZvL hi'),ZvL hi'⟩;·simpa using hcc 0 _ rfl
  ·have:=hcc 1 _ rfl;rw[h1]at this;exact this:∃x:En,∃b o,eA=some ⟨b,o,none⟩/\b<W.heap.size/\x.co.length=np/\Small 20 x.co/\x.mo.natAbs<=20/\W.cell? ⟨b,o+i*3,none⟩=some (.string x.nm)/\W.cell? ⟨b,o+i*3+1,none⟩=some (.slice x.A np x.c)/\W.cell? ⟨b,o+i*3+2,none⟩=some (.int .i64 x.mo)/\At 1 Zc W x.A x.co/\(exs es).getD i default=(x.co,x.mo)/\es[i]?=some x);have hmk:=Zd9 (np+1) (by omega);obtain⟨N1,hN1⟩:∃N1,np+1=N1:=⟨_,rfl⟩;rw[hN1]at hmk;have hw1:IntKind.i64.wrap ((np:Int)+1)=(N1:Int):=by rw[<-hN1];exact Zva _ (by omega)
 have hN6:N1<=6:=by omega
 have hN1':=Zvc hN1;have hR':=Zvc hR;have hen':=Zvc hen;have hzn':=Zvc hzn;have htn':=Zvc htn;have hz':=Zvc hz;have ht':=Zvc ht;have hzt':=Zvc hzt;have hBA':=Zvc hBA;have hzl:zn<=4:=by omega
 have hen8:en<=8:=by omega
 have htl:tn<=4:=by omega
 rw[hBA];obtain⟨i0,hi,hz0,hz1,hz2⟩:=info_parts info3;obtain⟨i1,hj,hj0,hj1,hj2⟩:=info_parts info31;obtain⟨X,hX⟩:∃X,exs es=X:=⟨_,rfl⟩;have hX':=Zvc hX;rw[hX]at fE |-;have hN0:0<N1:=by omega
 have hba0:BA[0]?=some (.slice pA np pc):=by rw[<-hBA];rfl
 clear hR hE hen hzn htn hz ht hzt hBA hZ hT hX hN1;have c0:=Zvc fun(W:World)(h:W.heap[w.heap.size]?=some (.cells BA 137 (0,0)))=>(by
  have NB:W.heap[w.heap.size]?=some (.cells (ZV (.slice pA np pc) (.slice eA en ec) (.slice zA zn zc) (.slice tA tn tc) z t).toArray 137 (0,0)):=by rw[hBA'.out];exact h
  exact⟨ZaA NB (k:=0) rfl,ZaA NB (k:=1) rfl,ZaA NB (k:=2) rfl,ZaA NB (k:=3) rfl,ZI h⟩:W.cell? ⟨w.heap.size,0,none⟩=some (.slice pA np pc)/\W.cell? ⟨w.heap.size,1,none⟩=some (.slice eA en ec)/\W.cell? ⟨w.heap.size,2,none⟩=some (.slice zA zn zc)/\W.cell? ⟨w.heap.size,3,none⟩=some (.slice tA tn tc)/\w.heap.size<W.heap.size);go_enter func86,ntmps86;go_wp2;clear hba0;go_loopw [33] (fun i wr=>∃k:Nat,k<=N1/\i=.int .i64 k/\Hid (ZO 3 wr (w.heap.size+2) (List.replicate k 1++List.replicate (N1-k) 0))/\wr.heap[w.heap.size]?=some (.cells BA 137 (0,0))/\wr.heap[w.heap.size+1]?=some (.cells #[.int .i64 0,.slice none 0 0] 59 (0,0))/\Below w.heap.size w wr) (fun i _=>N1-(intOf i).toNat);case atStart=>
  refine⟨0,Zxa _,rfl,?_,?_,?_,?_⟩;·have:=ZO.new (T:=3) ((w.alloc (.cells BA 137 (0,0))).alloc (.cells #[.int .i64 0,.slice none 0 0] 59 (0,0))) (List.replicate N1 0);simp only[World.size_alloc]at this;exact Zvc (by simpa using this)
  ·(repeat (first|assumption|(refine Zz _ _ ?_;(simp;done))|refine ZB ?_|refine Zy ?_ _|refine ZA ?_ (by simp<;>omega) _))
  ·(repeat (first|assumption|(refine Zz _ _ ?_;(simp;done))|refine ZB ?_|refine Zy ?_ _|refine ZA ?_ (by simp<;>omega) _))
  ·go_grown
 case round=>
  obtain⟨k,hk,rfl,hI,M0,M1,hbw⟩:=hrel;have hs2:=hI.out.size;by_cases hkn:k<N1
  ·have hkI:(k:Int)<(N1:Int):=by omega
   have ci:=hI.out.loadD (k:=k) (by simp;omega);have fi:=hI.out.frozen k;have hI2:=Zvc (hI.out.store k 1);rw[ZqP hkn]at hI2;clear hmk;go_wp2;go_roundw;case rel=>exact⟨k+1,by omega,by go_num,hI2.out,ZA M0 (by dsimp only;omega) _,ZA M1 (by dsimp only;omega) _,hbw.setCell (by dsimp only;omega) _⟩
   case measure=>simp[intOf]<;>omega
  ·obtain rfl:N1=k:=by omega
   have hI1:=Zvc (show ZO 3 wr (w.heap.size+2) (List.replicate N1 1)by simpa using hI.out);obtain⟨d0,d1,d2,d3,d4⟩:=c0.out _ M0;clear hI hkn;go_wp2;clear d0 d1 d2 d3 d4;go_loopw [7,45] (fun v7 i wr=>∃(k:Nat)(xs:List IR),k<=zn/\i=.int .i64 k/\Hid (RowsOwn wr (w.heap.size+2) v7 xs/\xs.map IR.l=List.replicate N1 1::(z.take k).map (ZaE N1))/\wr.heap[w.heap.size]?=some (.cells BA 137 (0,0))/\wr.heap[w.heap.size+1]?=some (.cells #[.int .i64 0,.slice none 0 0] 59 (0,0))/\Below w.heap.size w wr)(fun _ i _=>zn-(intOf i).toNat);case atStart=>exact⟨0,_,Zxa _,rfl,Zvc ⟨RowsOwn.one hI1.out (ZwO _) (by simp),by simp⟩,Zy M0 _,Zy M1 _,via hbw (ZC _ _)⟩
   case round=>
    clear hI1 M0 M1 hbw hs2;obtain⟨k,xs,hk,rfl,hrows,M0,M1,hbw⟩:=hrel;have s0:=ZI M0;have s1:=ZI M1;by_cases hkn:k<zn
    ·have hkI:(k:Int)<(zn:Int):=by omega
     obtain⟨bz,oz,rfl,hbz,cz⟩:=fZ.out wr hbw k hkn;obtain⟨i,hi2⟩:∃i,z[k]?=some i:=⟨_,ZvL (by rw[hzn'.out];exact hkn)⟩;have hiD:(Z1 z).getD k 0=(i:Int):=by rw[ZvG,Zc8 hi2];rfl
     rw[hiD]at cz;have hin:=hz'.out i (Zwn hi2);have hiI:(i:Int)<(N1:Int):=by have:=hN1'.out;omega
     have hst:=Zvc (show (z.take (k+1)).map (ZaE N1)=(z.take k).map (ZaE N1)++[ZaE N1 i]by rw[ZwA,hi2];simp);have hxn:=Zvc (show xs.length=k+1 by have h1:=congrArg List.length hrows.out.2;rw[Zv2]at h1;simp only[Zv0,Zv2,Zv5]at h1;rw[hzn'.out]at h1;omega);have hI0:=Zvc (ZO.new (T:=3) wr (List.replicate N1 0));have ci:=hI0.out.loadD (k:=i) (by simp;omega);have fi:=hI0.out.frozen i;have hI2:=Zvc (hI0.out.store i 1);rw[ZkX (by omega)]at hI2;obtain⟨A7,c7,rfl⟩:=Zac hrows.out.1.own;have hb5:Below wr.heap.size wr (wr.alloc (.cells ((ZaP (List.replicate N1 0)).setIfInBounds i (.int .i64 1)) 3 (0,0))):=ZC wr _;have hI2:=Zvc (show ZO 3 (wr.alloc (.cells ((ZaP (List.replicate N1 0)).setIfInBounds i (.int .i64 1)) 3 (0,0))) wr.heap.size (ZaE N1 i)by rw[Zhn,ZkX (by omega)];exact ZO.new wr _);have hRo:=Zvc (hrows.out.1.below hb5);have hmp:=Zvc hrows.out.2;have hne9:=Zvc (show some wr.heap.size≠(Value.slice A7 xs.length c7).ownBlock from fun e=>ZwR _ (hrows.out.1.own.lt _ e.symm).2);have Q0:=Zvc (Zw hb5 M0);have Q1:=Zvc (Zw hb5 M1);have hbw5:=Zvc (via hbw hb5);clear hiD hi2 hI0 hrows hbw hb5 M0 M1;go_wp2_with (at_builtin;refine wpList_append_lies _ rfl _ _ 160 rfl (w.heap.size+2) 28 i1 (.slice none 0 0) 1 24 underlying160 hj hj0 hj1 hj2 rfl (by decide) _ _ _ rfl (hRo.out.own.alloc _) ⟨wr.heap.size+1,0,none⟩ 1 1 [.slice (some ⟨wr.heap.size,0,none⟩) N1 N1] rfl rfl ?c1 ?c2 (by decide) ?c3 ?c4 ?c5 (wr.heap.size+1+1) ?c6 ?_);case c1=>exact Zbq _ [.slice (some ⟨wr.heap.size,0,none⟩) N1 N1] _ (by simp)
     case c2=>intro u hu;simp at hu;subst hu;rfl
     case c3=>have:=hxn.out;unfold maxLen;omega
     case c4=>have:=hxn.out;omega
     case c5=>have:=hbw5.out.size;simp at this;simp;omega
     case c6=>simp
     intro g cap w4 hown4 hg4 hor4 hlt4;have hRo4:=Zvc (RowsOwn.push (x:=⟨some ⟨wr.heap.size,0,none⟩,N1,ZaE N1 i⟩) hRo.out (ZC _ _) rfl ((hI2.out.at').below (ZC _ _)) (by dsimp only;omega) (by simp;omega) hne9.out hg4 (by show w4.ownsRow _ 28 1 _ _ (_++[Value.slice (some ⟨wr.heap.size,0,none⟩) (ZaE N1 i).length N1]);rw[show (ZaE N1 i).length=N1 by simp[ZaE]];exact hown4) (by simpa using hor4));have hbw4:Below w.heap.size w w4:=ZW (via hbw5.out (ZC _ _)) hg4 fun b e=>by have:=(hRo.out.own.lt b e).1;omega
     have R0:=Zal hg4 (Zy Q0.out _) (Zak hRo.out.own (by omega));have R1:=Zal hg4 (Zy Q1.out _) (Zak hRo.out.own (by omega));have hmap:=Zvc (show (xs++[(⟨some ⟨wr.heap.size,0,none⟩,N1,ZaE N1 i⟩:IR)]).map IR.l=List.replicate N1 1::(z.take (k+1)).map (ZaE N1)from by rw[Zv9,hmp.out,hst.out];rfl);clear hown4 hg4 hor4 hRo hmp Q0 Q1;go_wp2;go_roundw;case rel=>exact⟨k+1,_,by omega,by go_num,⟨hRo4.out,hmap.out⟩,R0,R1,hbw4⟩
     case measure=>simp[intOf]<;>omega
    ·obtain rfl:zn=k:=by omega
     have hall:z.take zn=z:=by rw[<-hzn'.out,ZwB]
     rw[hall]at hrows;obtain⟨d0,d1,d2,d3,d4⟩:=c0.out _ M0;clear hkn hmk hw1 hall;go_wp2;clear d0 d1 d2 d3 d4;go_loopw [7,63] (fun v7 i wr=>∃(k:Nat)(xs:List IR),k<=tn/\i=.int .i64 k/\Hid (RowsOwn wr (w.heap.size+2) v7 xs/\xs.map IR.l=List.replicate N1 1::(z.map (ZaE N1)++(t.take k).map fun i=>(X.getD i default).1++[(X.getD i default).2]))/\wr.heap[w.heap.size]?=some (.cells BA 137 (0,0))/\wr.heap[w.heap.size+1]?=some (.cells #[.int .i64 0,.slice none 0 0] 59 (0,0))/\Below w.heap.size w wr)(fun _ i _=>tn-(intOf i).toNat);case atStart=>exact⟨0,xs,Zxa _,rfl,Zvc ⟨hrows.out.1,by rw[hrows.out.2];simp⟩,M0,M1,hbw⟩
     case round=>
      clear hrows M0 M1 hbw s0 s1;obtain⟨k,xs,hk,rfl,hrows,M0,M1,hbw⟩:=hrel;have s0:=ZI M0;have s1:=ZI M1;by_cases hkn:k<tn
      ·have hkI:(k:Int)<(tn:Int):=by omega
       obtain⟨bt,ot,rfl,hbt,ct⟩:=fT.out wr hbw k hkn;obtain⟨i,hi2⟩:∃i,t[k]?=some i:=⟨_,ZvL (by rw[htn'.out];exact hkn)⟩;have hiD:(Z1 t).getD k 0=(i:Int):=by rw[ZvG,Zc8 hi2];rfl
       rw[hiD]at ct;have hin:=ht'.out i (Zwn hi2);have hiI:(i:Int)<(en:Int):=by omega
       obtain⟨x,be,oe,rfl,hbe,hxl,hxs,hxm,e0,e1,e2,hxa,hxg,hxe⟩:=fE.out wr hbw i hin;have hst:=Zvc (show (t.take (k+1)).map (fun i=>(X.getD i default).1++[(X.getD i default).2])=(t.take k).map (fun i=>(X.getD i default).1++[(X.getD i default).2])++[x.co++[x.mo]]by rw[ZwA,hi2,Zv9,Option.toList_some,Zwa,Zwc,hxg]);have hxn:=Zvc (show xs.length<=20 by have h1:=congrArg List.length hrows.out.2;rw[Zv2]at h1;simp only[Zv0,ZvZ,Zv2,Zv5]at h1;rw[hzn'.out,htn'.out]at h1;omega);obtain⟨d0,d1,d2,d3,d4⟩:=c0.out _ M0;obtain⟨A7,c7,rfl⟩:=Zac hrows.out.1.own;have hmp:=Zvc hrows.out.2;have hRo:=Zvc hrows.out.1;have hxa':=Zvc hxa;have hxl':=Zvc hxl;clear hiD hi2 hrows hxl hxs hxm hxa hxg;have hxe:=Zvc hxe;have hxr:0<np:=by have:=hzt'.out;omega
       go_wp2;refine Zba ?_;intro W6 hW6;have hb6:Below wr.heap.size wr W6:=by rw[hW6];exact ZC _ _
       have H6:W6.heap[wr.heap.size]?=some (.cells #[.string x.nm,.slice x.A np x.c,.int .i64 x.mo] 88 (0,0)):=by rw[hW6];exact Zz _ _ rfl
       have hRo6:=Zvc (hRo.out.below hb6);have Q0:=Zw hb6 M0;have Q1:=Zw hb6 M1;have hbw6:=via hbw hb6;have hs6:wr.heap.size<W6.heap.size:=ZI H6;have hv6:=Zvc (show ∀r,(Value.slice A7 xs.length c7).ownBlock=some r->w.heap.size+2<=r/\r<wr.heap.size from fun r e=>hRo.out.own.lt r e);have hxa6:=Zvc (hxa'.out.below hb6);have hk6:=Zvc fun(u:World)(hu:Za1 w W6 (.slice A7 xs.length c7) u)=>(hu.2.2 _ hs6 (fun e=>ZwR _ (hv6.out _ e.symm).2)).trans H6;have hxa7:=Zvc fun(u:World)(hu:Za1 w W6 (.slice A7 xs.length c7) u)=>(by obtain⟨x',b',o',e1,-,e2,-,-,-,-,-,e3,-,e4⟩:=fE.out u hu.1 i hin;have hxe2:=hxe.out;rw[e4]at hxe2;cases hxe2;exact e3:At 1 Zc u x.A x.co);clear hW6 hb6 hRo M0 M1 hbw hxa' d0 d1 d2 d3 d4 e0 e1 e2 ct;refine Zqy 11 _ (by kernel_rfl) rfl rfl (by kernel_rfl) (by kernel_rfl) (by kernel_rfl) (by kernel_rfl) ?_;simp only[ZwD,ZwF];apply ZqB w 1 4 7 8 9 10 np xs.length 3 (x.co.map (Value.int .i64)) [.int .i64 x.mo] (.cells #[] 3 (0,0)) (.cells #[.int .i64 x.mo] 3 (0,0)) (fun h=>.cells #[.slice h.a1 (np+1) h.c1] 28 (0,0)) (fun h=>[.slice h.a1 (np+1) h.c1]) (w.heap.size+2) 28 (.slice A7 xs.length c7) (xs.map fun x=>.slice x.A x.l.length x.c);case hB=>kernel_rfl
       case hB'=>intro g;kernel_rfl
       case hS=>kernel_rfl
       case hN=>kernel_rfl
       case hne=>decide
       case hd1=>
        intro L hc;refine⟨fun o ho h=>?_,fun o ho h=>?_,fun o ho h=>?_⟩;·simp at ho;subst ho;simp[Region.binds]at h;exact⟨by simp[h],by simp[h]⟩
        ·simp at ho;subst ho;simp[Region.binds]at h;simp[h]
        ·simp at ho;subst ho;simp[Region.binds]at h;simp[h]
       case hw=>exact hbw6
       case hv0=>intro r e;have:=(hv6.out r e).1;omega
       case hown=>exact hRo6.out.own
       case hal0=>intro o ho g y;simp only[ZvJ,ZvK,Zxi]at ho;subst ho;kernel_rfl
       case hal1=>intro o ho g y;simp only[ZvJ,ZvK,Zxi]at ho;subst ho;kernel_rfl
       case hal2=>intro o ho g y;simp only[ZvJ,ZvK,Zxi]at ho;subst ho;kernel_rfl
       case hcl=>intro o ho g y hy;simp only[ZvJ,ZvK,Zxi]at ho;subst ho;exact ZqC (P:=prog) (A:=x.A) (l:=x.co) (n:=np) (b:=(g 1).b) (c:=x.c) (.tmp 74) (.tmp 76) 28 3 i0 (.int .i64 0) 8 W6.heap.size hxl'.out (by rfl) (by kernel_rfl) (by kernel_rfl) underlying28 hi hz0 hz1 hz2 (by rfl) (by decide) (hxa7.out y hy) (by rw[hxl'.out];exact hxr) (by rw[hxl'.out];omega) hy.2.1
       case hq=>
        intro g u hu hgc hbx hbX;have D6:=bk3 (hk6.out u hu);dsimp only[mixL,yieldsC,Zvn,Zvq];simp only[mixL,mkR6,yieldsC,Zvn,Zvq,Nat.reduceAdd,Nat.reduceBEq,Zw9,ZuW,ZuY,ZuR,ZuZ,ZuQ,if_true,if_false,ZuX,Nat.reduceEqDiff];repeat (go_big_quiet_step (fail))
        exact wpQuiet_nil rfl
       case hap1=>intro o ho g y hy h1 h2;simp only[ZvJ,ZvK,Zxi]at ho;subst ho;refine Exists.imp (fun v' h=>Exists.imp (fun x' h=>⟨h.1,h.2.1,h.2.2.1⟩) h) (ZkN (P:=prog) (b:=(g 7).b) (v:=.slice (g 4).a1 np (g 4).c1) (u:=.int .i64 x.mo) (tb:=3) (.tmp 77) (.tmp 80) 28 3 i0 (.int .i64 0) 8 W6.heap.size np (x.co.map (Value.int .i64)) (by rfl) (by kernel_rfl) (by kernel_rfl) underlying28 hi hz0 hz1 hz2 (by rfl) (by decide) h1 h2 rfl (by omega) hy.2.1)
       case hap2=>intro o ho g y hy h1 h2;simp only[ZvJ,ZvK,Zxi]at ho;subst ho;exact ZkN (P:=prog) (.tmp 73) (.tmp 82) 160 28 i1 (.slice none 0 0) _ 24 _ _ _ _ _ _ rfl (by kernel_rfl) (by kernel_rfl) underlying160 hj hj0 hj1 hj2 rfl (by decide) h1 h2 rfl (by have:=hxn.out;omega) (by have:=hbw6.size;have:=hy.2.1;omega)
       case hind=>intro j hj;simp only[Zwi,Zwt,or_false]at hj;rcases hj with rfl|rfl|rfl|rfl|rfl|rfl<;>(intro g h;kernel_rfl)
       intro g y hy h1 h2 h3;have hRo7:=Zvc (hRo6.out.row6 (l:=x.co++[x.mo]) (by have:=hbw6.size;omega) hy (by rw[Zv9];exact h1) (by omega) h2 h3);have R0:=(hy.2.2 _ (by omega) (fun e=>by have:=(hv6.out _ e.symm).1;omega)).trans Q0;have R1:=(hy.2.2 _ (by omega) (fun e=>by have:=(hv6.out _ e.symm).1;omega)).trans Q1;have hbw7:=hy.1;have hmap:=Zvc (show (xs++[(⟨(g 8).a1,(g 8).c1,x.co++[x.mo]⟩:IR)]).map IR.l=List.replicate N1 1::(z.map (ZaE N1)++(t.take (k+1)).map fun i=>(X.getD i default).1++[(X.getD i default).2])from by rw[Zv9,hmp.out,hst.out];simp);obtain⟨A8,hA8⟩:∃A,(g 10).a1=A:=⟨_,rfl⟩;obtain⟨c8,hc8⟩:∃c,(g 10).c1=c:=⟨_,rfl⟩;rw[hA8,hc8]at hRo7;rw[hA8,hc8];clear hy h1 h2 h3 hst hmp hk6 hxa7 Q0 Q1 hRo6;dsimp only;go_wp2;go_roundw;case rel=>exact⟨k+1,_,by omega,by go_num,⟨hRo7.out,hmap.out⟩,R0,R1,hbw7⟩
       case measure=>simp[intOf]<;>omega
      ·obtain rfl:tn=k:=by omega
       have hall:t.take tn=t:=by rw[<-htn'.out,ZwB]
       obtain⟨hro,hmap⟩:=hrows.out;rw[hall]at hmap;have hmM:xs.map IR.l=ZaQ np X z t:=by rw[hmap,<-hN1'.out];rfl
       have hxl:xs.length=np:=by have h1:=congrArg List.length hmM;rw[Zv2,ZkY]at h1;have:=hzt'.out;omega
       obtain⟨A7,c7,rfl⟩:=Zac hro.own;have hnp:1<=np:=by have:=hzt'.out;omega
       have hS:=Zvc (Zkc A7 xs c7 wr hro.rowsAt (fun x hx=>by have:=ZqQ (z:=z) (t:=t) hR'.out (fun i hi=>by rw[hen'.out];exact ht'.out i hi) x.l (by rw[hX'.out,<-hmM];exact Zwm.2 ⟨x,hx,rfl⟩);omega) (by omega) (by omega) (by rw[hmM,<-hX'.out];exact Zh2 hR'.out z t));rw[hmM]at hS;rw[hxl]at hS |-;have hsm:=Zvc (show (ZaQ np X z t).length<=5/\Zcn (ZaQ np X z t)/\(ZaQ np X z t).length=np from⟨by rw[<-hmM,Zv2];omega,by rw[<-hX'.out];exact Zh2 hR'.out z t,by rw[<-hmM,Zv2];exact hxl⟩);obtain⟨sl,hsl⟩:∃sl,Zb3 (ZaQ np X z t)=sl:=⟨_,rfl⟩;have hsl':=Zvc hsl;unfold Zec at hS;rw[hsl]at hS;clear hsl hro hrows hall hkn hxl hmap hmM;rcases sl with _|⟨l,den⟩
       ·dsimp only at hS;have hnone:=Zvc (show Zbe np X z t=none by unfold Zbe;rw[hsl'.out]);go_wp2_with (go_at_call 104;refine hS.out.mono ?_;rintro e w2 ⟨rfl,hb2⟩;have N1:=Zw hb2 M1;have C1:=bk2 N1;have hbw2:=via hbw hb2);refine bodyPost_ret (v:=.tuple #[.agg #[.int .i64 0,.slice none 0 0],.bool false]) ?_ rfl ⟨?_,?_⟩;·refine Zat (p:=2) (u:=3) (ad:=⟨w.heap.size+1,0,none⟩) (v:=.agg #[.int .i64 0,.slice none 0 0]) rfl (by rfl) (Z5 (T:=59) (cs:=[.int .i64 0,.slice none 0 0]) (by kernel_rfl) (by kernel_rfl) ?_);exact ZH (ZH (N1) _ rfl) _ rfl
        ·unfold Zel;rw[hnone.out]
        ·first|go_grown|(repeat' (first|assumption|refine ZuL ?_ (by dsimp only;omega) _))
       ·dsimp only at hS;obtain⟨hll,hdb,hdp,hls⟩:=ZhC hsl'.out hsm.out.1 hsm.out.2.1;rw[hsm.out.2.2]at hll;rw[hll]at hS;have hll':=Zvc hll;have hls':=Zvc hls;clear hls hll hsm;go_wp2_with (go_at_call 104;refine hS.out.mono ?_;rintro e w2 ⟨⟨v,rfl,hown⟩,hb2⟩;obtain⟨A14,c14,rfl⟩:=Zac hown;have N1:=Zw hb2 M1;have C1:=bk2 N1;have hbw2:=via hbw hb2;have N0:=Zw hb2 M0;have hown':=Zvc hown;clear hown);refine Zba ?_;intro W8 hW8;have hb8:Below w2.heap.size w2 W8:=by rw[hW8];exact ZC _ _
        have hQ8:W8.heap[w2.heap.size]?=some (.cells #[.int .i64 den,.slice A14 np c14] 59 (0,0)):=by rw[hW8];exact Zz _ _ rfl
        have hown8:=Zvc (ZN hown'.out hb8);have P0:=Zw hb8 N0;have P1:=Zw hb8 N1;have hbw8:=via hbw2 hb8;obtain⟨Q,hQ⟩:∃Q,w2.heap.size=Q:=⟨_,rfl⟩;have hQv:=Zvc (show ∀r,(Value.slice A14 np c14).ownBlock=some r->wr.heap.size<=r/\r<Q from fun r e=>by rw[<-hQ];exact hown'.out.lt r e);have hsQ:=Zvc (show wr.heap.size<=Q by rw[<-hQ];exact hb2.size);rw[hQ]at hQ8 |-;have hcl:=Zvc fun(W:World)(ho:W.ownsRow wr.heap.size 3 1 (.slice A14 np c14) np (l.map (Value.int .i64))) k (hk:k<np)=>(by
         obtain⟨g,h1,h2,h3,h4⟩:=Zeb ho (k:=k) (u:=.int .i64 (l.getD k 0)) (by
          have:k<l.length:=by rw[hll'.out];exact hk
          rw[ZvP,ZvG,ZvL this];rfl);exact⟨g,h1,h3,h4⟩:∃g,A14=some ⟨g,0,none⟩/\g<W.heap.size/\W.cell? ⟨g,k,none⟩=some (.int .i64 (l.getD k 0)));have hBw:w.heap.size+2<=wr.heap.size:=by omega
        obtain⟨Bs,hBs⟩:∃Bs,wr.heap.size=Bs:=⟨_,rfl⟩;rw[hBs]at hown8 hQv hsQ hcl hBw;clear hW8 hown' M0 M1 N0 N1 C1 hbw hbw2 hb8 hb2 hS hQ hBs;go_loopw [99] (fun i wr8=>∃k:Nat,k<=np/\i=.int .i64 k/\Hid (∀j,j<k->¬l.getD j 0<0)/\W8=wr8)(fun i _=>np-(intOf i).toNat);case atStart=>exact⟨0,Zxa _,rfl,fun j hj=>by omega,rfl⟩
        case round=>
         obtain⟨k,hk,rfl,hnn,rfl⟩:=hrel;by_cases hkn:k<np
         ·have hkI:(k:Int)<(np:Int):=by omega
          obtain⟨g,rfl,hg,cl⟩:=hcl.out W8 hown8.out k hkn;obtain⟨x,hx⟩:∃x,l.getD k 0=x:=⟨_,rfl⟩;rw[hx]at cl;have hx':=Zvc hx;clear hx;by_cases hx0:x<0
          ·have hnone:=Zvc (show Zbe np X z t=none by unfold Zbe;rw[hsl'.out];simp only;rw[if_pos (ZqR (k:=k) (by rw[hll'.out];exact hkn) (by rw[hx'.out];exact hx0))]);have C1:=bk2 P1;go_wp2;refine bodyPost_ret (v:=.tuple #[.agg #[.int .i64 0,.slice none 0 0],.bool false]) ?_ rfl ⟨?_,?_⟩;·refine Zat (p:=2) (u:=3) (ad:=⟨w.heap.size+1,0,none⟩) (v:=.agg #[.int .i64 0,.slice none 0 0]) rfl (by rfl) (Z5 (T:=59) (cs:=[.int .i64 0,.slice none 0 0]) (by kernel_rfl) (by kernel_rfl) ?_);exact ZH (ZH (P1) _ rfl) _ rfl
           ·unfold Zel;rw[hnone.out]
           ·first|go_grown|(repeat' (first|assumption|refine ZuL ?_ (by dsimp only;omega) _))
          ·go_wp2;go_roundw;case rel=>exact⟨k+1,by omega,by go_num,(fun j hj=>by
            by_cases hjk:j=k;·rw[hjk,hx'.out];exact hx0
            ·exact hnn.out j (by omega)),by trivial⟩
           case measure=>simp[intOf]<;>omega
         ·obtain rfl:np=k:=by omega
          obtain⟨d0,d1,d2,d3,d4⟩:=c0.out _ P0;have hnn':=Zvc (show l.any (·<0)=false from ZqS fun k hk=>hnn.out k (by rw[hll'.out]at hk;exact hk));clear hnn hkn;go_wp2;clear d0 d1 d2 d3 d4;go_loopw [111] (fun i wr9=>∃k:Nat,k<=en/\i=.int .i64 k/\Hid (∀j,j<k->dotL (X.getD j default).1 l<=(X.getD j default).2*den)/\wr9.heap[Q]?=some (.cells #[.int .i64 den,.slice A14 np c14] 59 (0,0))/\Below W8.heap.size W8 wr9)(fun i _=>en-(intOf i).toNat);case atStart=>exact⟨0,Zxa _,rfl,fun j hj=>by omega,hQ8,ZuK _ _⟩
          case round=>
           clear hQ8;obtain⟨k,hk,rfl,hper,hQb,hbr⟩:=hrel;have hbw9:=via hbw8 hbr;have hown9:=Zvc (ZN hown8.out hbr);by_cases hkn:k<en
           ·have hkI:(k:Int)<(en:Int):=by omega
            obtain⟨x,be,oe,rfl,hbe,hxl,hxs,hxm,e0,e1,e2,hxa,hxg,hxe⟩:=fE.out wr hbw9 k hkn;have hPr:=Zvc fun W (hb:Below wr.heap.size wr W)=>ZkW x.nm x.A A14 x.co l x.c c14 np x.mo den W (hxa.below hb) (ZaJ (ZN hown9.out hb)) hxl hll'.out (by omega) hxs hxm (fun y hy=>ZwP (hls'.out y hy) (by decide)) (by omega);have hxg':=Zvc hxg;obtain⟨d,hd⟩:∃d,decide (dotL x.co l<=x.mo*den)=d:=⟨_,rfl⟩;rw[hd]at hPr;have hd':=Zvc hd;have hQ9:=Zy hQb (.cells #[.string x.nm,.slice x.A np x.c,.int .i64 x.mo] 88 (0,0));have D:=bk2 hQ9;have hsW:=ZI hQb;clear hd hxa hxl hxs hxm hxg hxe;cases d with
            |false=>
             have hnone:=Zvc (show Zbe np X z t=none by unfold Zbe;rw[hsl'.out];simp only;rw[if_neg (by rw[hnn'.out];decide),if_pos (ZqT (k:=k) (by rw[<-hX'.out,ZaR,hen'.out];exact hkn) (by rw[hxg'.out];exact of_decide_eq_false hd'.out))]);go_wp2_with (go_at_call 63;refine(hPr.out _ (ZC _ _)).mono ?_;rintro e w10 ⟨rfl,hb10⟩;have hQ10:=Zw hb10 hQ9;have hb11:=via (ZC wr (.cells #[.string x.nm,.slice x.A np x.c,.int .i64 x.mo] 88 (0,0))) hb10;have R1:=Zw hb11 (Zw hbr P1);have C1:=bk2 R1;have hbw11:=via hbw9 hb11);refine bodyPost_ret (v:=.tuple #[.agg #[.int .i64 0,.slice none 0 0],.bool false]) ?_ rfl ⟨?_,?_⟩;·refine Zat (p:=2) (u:=3) (ad:=⟨w.heap.size+1,0,none⟩) (v:=.agg #[.int .i64 0,.slice none 0 0]) rfl (by rfl) (Z5 (T:=59) (cs:=[.int .i64 0,.slice none 0 0]) (by kernel_rfl) (by kernel_rfl) ?_);exact ZH (ZH (R1) _ rfl) _ rfl
             ·unfold Zel;rw[hnone.out]
             ·first|go_grown|(repeat' (first|assumption|refine ZuL ?_ (by dsimp only;omega) _))
            |true=>
             go_wp2_with (go_at_call 63;refine(hPr.out _ (ZC _ _)).mono ?_;rintro e w10 ⟨rfl,hb10⟩;have hQ10:=Zw hb10 hQ9;have hb11:=via (ZC wr (.cells #[.string x.nm,.slice x.A np x.c,.int .i64 x.mo] 88 (0,0))) hb10;have R1:=Zw hb11 (Zw hbr P1);have C1:=bk2 R1;have hbw11:=via hbw9 hb11);go_roundw;case rel=>exact⟨k+1,by omega,by go_num,(fun j hj=>by
              by_cases hjk:j=k;·rw[hjk,hxg'.out];exact of_decide_eq_true hd'.out
              ·exact hper.out j (by omega)),hQ10,via hbr hb11⟩
             case measure=>simp[intOf]<;>omega
           ·obtain rfl:en=k:=by omega
            have hyes:Zbe np X z t=some (l.map (· / (gcdL 0 (den::l):Int)),den / (gcdL 0 (den::l):Int)):=by unfold Zbe;rw[hsl'.out];simp only;rw[if_neg (by rw[hnn'.out];decide),if_neg (by rw[ZqU fun j hj=>hper.out j (by rw[<-hX'.out,ZaR,hen'.out]at hj;exact hj)];decide)]
            have hdv:=(ZdA (den::l) 0).2;have hG0:0<gcdL 0 (den::l):=Ze0 den (by simp) (by omega);have hDi:=Zvc fun A c w' hA=>Zhu A (den::l) c w' hA (by simp only[Zv0];rw[hll'.out];omega) (by
             intro x hx;rcases Zwi.1 hx with rfl|hx;·exact ZwP hdb (by decide)
             ·exact ZwP (hls'.out x hx) (by decide));have hll2:(den::l).length=1+np:=by simp only[Zv0];rw[hll'.out];omega
            rw[hll2]at hDi;obtain⟨gI,hgI⟩:∃gI:Int,((gcdL 0 (den::l):Nat):Int)=gI:=⟨_,rfl⟩;rw[hgI]at hyes hdv hDi;have hg0:0<gI:=by omega
            have hgn:¬gI=0:=by omega
            have hgb:(gI==0)=false:=by simpa using hgn
            have hw1:IntKind.i64.wrap (den.tdiv gI)=den / gI:=ZcB hg0 (hdv den (by simp)) hdb (by decide);have hwL:=Zvc fun j (hj:j<np)=>(ZcB hg0 (hdv (l.getD j 0) (by
             have hj2:j<l.length:=by rw[hll'.out];exact hj
             rw[ZvG,ZvL hj2];exact Zwj _ (ZvX hj2))) (hls'.out.get j) (by decide):IntKind.i64.wrap ((l.getD j 0).tdiv gI)=l.getD j 0 / gI);have hyes':=Zvc hyes;have hlitO:=Zvc fun(x:World)=>(⟨rfl,.inr ⟨x.heap.size,1,#[.int .i64 den],rfl,ZwO _,Zz _ _ rfl,ZwO _,by decide,rfl,rfl⟩⟩:(x.alloc (.cells #[.int .i64 den] 3 (0,0))).ownsRow x.heap.size 3 1 (.slice (some ⟨x.heap.size,0,none⟩) 1 1) 1 [.int .i64 den]);obtain⟨g,rfl,hg14,-⟩:=hcl.out wr hown9.out 0 (by have:=hzt'.out;omega);have hQv2:=Zvc (hQv.out g rfl);clear hyes hdv hG0 hgI hll2 hper hkn;go_wp2_with (at_builtin;refine wpList_append_own _ rfl _ _ 28 rfl wr.heap.size 3 i0 (.int .i64 0) 1 8 underlying28 hi hz0 hz1 hz2 rfl (by decide) _ _ _ rfl (hlitO.out wr) ⟨g,0,none⟩ np c14 (l.map (Value.int .i64)) rfl ?c0 ?c1 ?c2 ?c3 ?c4 ?c5 ?_);case c0=>rw[Zv2,hll'.out,Zw0]
            case c1=>
             intro j u hu;obtain⟨g',e1,-,-,e2⟩:=Zeb (ZN hown9.out (ZC wr (.cells #[.int .i64 den] 3 (0,0)))) hu;cases e1;have e:Addr.add ⟨g,0,none⟩ j=⟨g,j,none⟩:=by unfold Addr.add;split<;>simp_all
             rw[e];exact e2
            case c2=>intro u hu;obtain⟨y,-,rfl⟩:=Zwm.1 hu;rfl
            case c3=>unfold maxLen;omega
            case c4=>omega
            case c5=>simp
            intro v4 w4 hown4 hg4 _;obtain⟨A4,c4,rfl⟩:=Zac hown4;have hbx4:Below wr.heap.size wr w4:=ZW (ZC wr _) hg4 fun b e=>by cases e;exact ZwO _
            have hat5:=Zvc (show At 1 Zc w4 A4 (den::l)from ZaJ (l:=den::l) hown4);have hO4:=Zvc (ZN hown9.out hbx4);have hQ4:=Zw hbx4 hQb;have hbr4:=via hbr hbx4;clear hown4 hg4 hbx4 hown9 hQb hbr hbw9;go_wp2_with (go_at_call 80;refine(hDi.out _ _ _ hat5.out).mono ?_;rintro e w5 ⟨rfl,hb5⟩;have hQ5:=Zw hb5 hQ4;have D:=bk2 hQ5);have hO5:=Zvc (ZN hO4.out hb5);have hbr5:=via hbr4 hb5;have R1:=Zw hbr5 P1;have hbw5:=via hbw8 hbr5;obtain⟨hQv3,hQv4⟩:=hQv2.out;have hsQ2:=ZI hQ5;clear hO4 hQ4 hbr4 hb5 hat5 hDi hlitO D hbr5 P0 P1 hown8 hbw8;go_loopw [129] (fun i wr=>∃k:Nat,k<=np/\i=.int .i64 k/\Hid (wr.ownsRow Bs 3 1 (.slice (some ⟨g,0,none⟩) np c14) np (((l.take k).map (· / gI)++l.drop k).map (Value.int .i64)))/\wr.heap[Q]?=some (.cells #[.int .i64 den,.slice (some ⟨g,0,none⟩) np c14] 59 (0,0))/\wr.heap[w.heap.size+1]?=some (.cells #[.int .i64 0,.slice none 0 0] 59 (0,0))/\Below w.heap.size w wr)(fun i _=>np-(intOf i).toNat);case atStart=>exact⟨0,Zxa _,rfl,Zvc (by simpa using hO5.out),hQ5,R1,hbw5⟩
            case round=>
             clear hO5 hQ5 R1 hbw5;obtain⟨k,hk,rfl,hO6,hQ6,R1,hbw6⟩:=hrel;have D:=bk2 hQ6;by_cases hkn:k<np
             ·have hkI:(k:Int)<(np:Int):=by omega
              have hkL:k<l.length:=by rw[hll'.out];exact hkn
              obtain⟨g',e1,hg6,hg7,ci⟩:=Zeb hO6.out (k:=k) (u:=.int .i64 (l.getD k 0)) (by rw[ZvP,Zki hkL];rfl);cases e1;have fi:=ZqO hO6.out k;have hO7:=Zvc (ZqN hO6.out hkn (.int .i64 (l.getD k 0 / gI)));have hset:(((l.take k).map (· / gI)++l.drop k).map (Value.int .i64)).set k (.int .i64 (l.getD k 0 / gI))=((l.take (k+1)).map (· / gI)++l.drop (k+1)).map (Value.int .i64):=by rw[<-Zkh hkL,List.map_set]
              rw[hset]at hO7;have hww:=hwL.out k hkn;obtain⟨y,hy⟩:∃y,l.getD k 0=y:=⟨_,rfl⟩;rw[hy]at ci hww hO7;clear hy hkL hset hO6;go_wp2;go_roundw;case rel=>exact⟨k+1,by omega,by go_num,hO7.out,ZA hQ6 (by dsimp only;omega) _,ZA R1 (by dsimp only;omega) _,hbw6.setCell (by dsimp only;omega) _⟩
              case measure=>simp[intOf]<;>omega
             ·obtain rfl:np=k:=by omega
              have hO8:=Zvc hO6.out;rw[show l.take np=l by rw[<-hll'.out,ZwB],show l.drop np=[]by rw[<-hll'.out,List.drop_length],Zvj]at hO8;have C1:=bk2 R1;clear hO6;have hne1:w.heap.size+1≠Q:=by omega
              have hne2:Q≠w.heap.size+1:=by omega
              have hne3:g≠Q:=by omega
              have hne4:g≠w.heap.size+1:=by omega
              obtain⟨d2,hd2⟩:∃d2,den / gI=d2:=⟨_,rfl⟩;rw[hd2]at hw1 hyes';go_wp2;refine bodyPost_ret (v:=.tuple #[.agg #[.int .i64 d2,.slice (some ⟨g,0,none⟩) np c14],.bool true]) ?_ rfl ⟨?_,?_⟩;·refine Zat (p:=2) (u:=3) (ad:=⟨w.heap.size+1,0,none⟩) (v:=.agg #[.int .i64 d2,.slice (some ⟨g,0,none⟩) np c14]) rfl (by rfl) (Z5 (T:=59) (cs:=[.int .i64 d2,.slice (some ⟨g,0,none⟩) np c14]) (by kernel_rfl) (by kernel_rfl) ?_);exact ZH (ZH (ZA R1 hne1 _) _ rfl) _ rfl
              ·unfold Zel;rw[hyes'.out];refine⟨_,_,rfl,ZaS (Zaj hO8.out fun r e=>?_) (ZwP (by omega) hBw)⟩;cases e;rw[ZuJ _ _ _ _ hne4,ZuJ _ _ _ _ hne4,ZuJ _ _ _ _ hne3]
              ·exact((hbw6.setCell (by dsimp only;omega) _).setCell (by dsimp only;omega) _).setCell (by dsimp only;omega) _
end Go.Proofs
namespace Go.Proofs
open Tryz
open Go.RowKit
attribute [local go_sem] Oper.semAt_some def SI(n k:Nat)(M:Nat->Prop)(w:World)(J:List ChV->(Nat->Prop)->World->Prop)(W0 B B1 B2:Nat)(f:Nat)(wr:World):Prop:=∃i l pre T,f+i=(cmb 0 n k).length/\ChI n k M w J W0 B B1 B2 i l wr pre T
theorem ZqW(m n k:Nat)(hkn:k<=n)(hn:n<=1000)(B1 B2:Nat)(M:Nat->Prop)(w:World)(h1:w.heap[B1]?=some (.cells #[.int .i64 k] 3 (0,0)))(h2:w.heap[B2]?=some (.cells #[.int .i64 n] 3 (0,0)))(hM1:¬M B1)(hM2:¬M B2)(hMw:∀j,M j->j<w.heap.size):ZkD Fence.wide m prog 103 #[.pointer (some ⟨B1,0,none⟩),.pointer (some ⟨B2,0,none⟩)] ZhT gvN M (fun pre x W=>(pre++[x]).map ChV.l<+:cmb 0 n k/\ZO 3 W x.b (Z1 x.l)/\x.l.length=k)
   (fun xs=>xs.map ChV.l=cmb 0 n k) (fun pre=>pre.map ChV.l<+:cmb 0 n k) (cmb 0 n k).length w:=by
 intro l J Jx W hW hlw hlW hJ hJx hY h0;have hws:=hW.size;have g1:=hW.block B1 (ZI h1);have g2:=hW.block B2 (ZI h2);rw[h1]at g1;rw[h2]at g2;have hB1:=ZI h1;have hB2:=ZI h2;have hmk:=Zvc (Zd9 k (by omega));have hmk':=hmk.out;have G1:=bk1 g1;have hJ':=Zvc hJ;have hMl:=Zvc hMw;have hY':=Zvc hY;have hM1':=Zvc hM1;have hM2':=Zvc hM2;have h0':=Zvc h0;have hlk:=Zvc (ZeY 0 n k);have hfirst:=Zvc (Zho 0 n k hkn);have hnext:=Zvc fun i l h=>Zhp 0 n k (n-k) (by omega) i l h;have hkn':=Zvc hkn;have hj1000:k<=1000:=by omega
 clear h0 hJ hJx hY hM1 hM2 hMw h1 h2 hkn;refine callsIn_of_wp func103 rfl trivial ?_;simp only[ntmps103,Zwy,Zv0,Zv3,Nat.reduceAdd,Nat.reduceSub,ZuF,Array.replicate_zero,List.push_toArray,Zvk,Zwr,Zvm];gi_wp2_with fail;clear hmk' G1;gi_loopw [12] (fun i wr=>∃j:Nat,j<=k/\i=.int .i64 j/\ZO 3 wr W.heap.size (ZcF k j)/\W.grownBy wr none/\W.heap.size<wr.heap.size)(fun i _=>k-(intOf i).toNat);case atStart=>exact⟨0,Zxa _,rfl,by have:=ZO.new (T:=3) W (List.replicate k 0);simpa [ZcF,Z1] using this,World.grownBy_alloc W _ none,by simp⟩
 case round=>
  obtain⟨j,hj,rfl,hm,hg,hsz⟩:=hrel;by_cases hlt:j<k
  ·have hjI:(j:Int)<(k:Int):=by omega
   have cj:=hm.loadD (k:=j) (by rw[Zqj hj];exact hlt);have fj:=hm.frozen j;have hm2:=Zvc (hm.store j (j:Int));have hkw:IntKind.i64.wrap ((j:Int)+1)=((j+1:Nat):Int):=by rw[Int.natCast_add];exact Zva _ (by omega)
   gi_wp2;go_roundw;case rel=>have:=hm2.out;rw[Zqi hlt]at this;exact⟨j+1,by omega,by go_num,this,⟨hg.os,hg.tape,hg.output,by simp;exact hg.size,fun i hi _=>(ZuJ wr _ _ i (by simp;omega)).trans (hg.block i hi (by simp))⟩,by simpa using hsz⟩
   case measure=>simp[intOf]<;>omega
  ·obtain rfl:j=k:=by omega
   rw[Zqk]at hm;have hI0:SI n j M w J W.heap.size W.heap.size B1 B2 (cmb 0 n j).length wr:=⟨0,_,[],fun _=>False,by omega,rfl,rfl,hfirst.out,hm,hJ'.out _ _ _ _ none h0'.out hg (fun r e=>by cases e),fun r h=>h.elim,(hg.block _ (ZI g1) (by simp)).trans g1,(hg.block _ (ZI g2) (by simp)).trans g2,ZwO _,hsz⟩;obtain⟨SX,hSX⟩:∃SX:Nat->World->Prop,SX=fun f wr=>SI n j M w J W.heap.size W.heap.size B1 B2 f wr:=⟨_,rfl⟩;have hSX1:Hid (∀f wr,SX f wr->SI n j M w J W.heap.size W.heap.size B1 B2 f wr):=by rw[hSX];exact fun _ _ h=>h
   have hSX2:Hid (∀f wr,SI n j M w J W.heap.size W.heap.size B1 B2 f wr->SX f wr):=by rw[hSX];exact fun _ _ h=>h
   have hI0':=Zvc hI0;obtain⟨Wz,hWz⟩:∃Wz,W.heap.size=Wz:=⟨_,rfl⟩;rw[hWz]at hSX1 hSX2 hI0' hlW;have hWz':=Zvc hWz;rw[hWz];clear hSX hI0 hm hg hsz hlt g1 g2;gi_wp2;gi_loopw [6] (fun _ wr=>∃f,SX f wr)(fun _ wr=>leastOf fun f=>SX f wr);case atStart=>exact⟨_,hSX2.out _ _ hI0'.out⟩
   case round=>
    clear hI0';obtain⟨f,hf⟩:∃f,(leastOf fun f=>SX f wr)=f:=⟨_,rfl⟩;have hls:=(leastOf_spec hrel).1;rw[hf]at hls;have hf':=Zvc hf;clear hf hrel;obtain⟨i,L,pre,T,hfi,hc⟩:=hSX1.out _ _ hls;clear hls;obtain⟨plen,ppre,pnow,pmem,pjj,ptt,pc1,pc2,psz⟩:=hc;have C1:=bk1 pc1;have C2:=bk1 pc2;have hLl:=hlk.out L (Zwn pnow);have hiN:i<(cmb 0 n j).length:=(ZvO.1 pnow).1;have hpx:(pre++[(⟨Wz,L⟩:ChV)]).map ChV.l=(cmb 0 n j).take (i+1):=by rw[Zv9,ppre,ZwA,pnow];rfl
    have hpw:(pre++[(⟨Wz,L⟩:ChV)]).map ChV.l<+:cmb 0 n j:=by rw[hpx];exact List.take_prefix _ _
    obtain⟨fn,tm,asg,bod,hy,hR⟩:=hY'.out pre T ⟨Wz,L⟩ wr pjj (fun r hr=>⟨by have:=(ptt r hr).1;omega,(ptt r hr).2.1⟩) (fun y _ r hr=>hr.elim) (by omega) ⟨hpw,pmem,hLl⟩;have hy':(Instr.yield l #[.slice (some ⟨Wz,0,none⟩) j j]).run prog wr=.ok (.round l fn tm asg bod) wr:=by have:=hy;simp only[ZhT,hLl]at this;exact this
    have hR':=Zvc hR;have hnI:(j:Int)<=(n:Int):=by have:=hkn'.out;omega
    have hpx':=Zvc hpx;have hpw':=Zvc hpw;have ptt':=Zvc ptt;have pmem':=Zvc pmem;have pc1':=Zvc pc1;have pc2':=Zvc pc2;have pnow':=Zvc pnow;have psz2:=psz.2;have plen':=Zvc plen;clear hy hR hpx hpw ppre pjj ptt pmem pnow pc1 pc2 psz plen;gi_wp2_with fail;clear hy' C1 C2;refine⟨fun h=>(by cases h),hR'.out.mono ?_⟩;clear hR';rintro e w4 ⟨T',t1,t2,hli,(⟨rfl,hJ4⟩|⟨rfl,hJ4⟩)⟩
    ·have hTB:∀r,T' r->Wz<=r/\r<w4.heap.size/\r≠Wz:=fun r hr=>by
      have h2:=t2 r hr;rcases t1 r hr with h|h;·have:=ptt'.out r h;omega
      ·omega
     have hnb:∀b,(b=Wz∨b=B1∨b=B2)->¬(M b∨T b∨b=l):=by
      rintro b hb (h|h|h)
      ·rcases hb with rfl|rfl|rfl;·have:=hMl.out _ h;omega
       ·exact hM1'.out h
       ·exact hM2'.out h
      ·have:=ptt'.out b h;omega
      ·omega
     have qmem:=pmem'.out.grown hli (hnb Wz (.inl rfl));have q1:=hli.obj (hnb B1 (.inr (.inl rfl))) pc1'.out;have q2:=hli.obj (hnb B2 (.inr (.inr rfl))) pc2'.out;have D1:=bk1 q1;have D2:=bk1 q2;obtain⟨m0,hm0⟩:∃m0,n-j=m0:=⟨_,rfl⟩;have hw0:IntKind.i64.wrap ((j:Int)-1)=(j:Int)-1:=Zva _ (by omega);have hJ4':=Zvc hJ4;have hTB':=Zvc hTB;clear hli t1 t2 hJ4 hTB hnb pmem' pc1' pc2' ptt';gi_wp2;gi_loopw [6] (fun at_ wi=>∃a:Nat,a<=j/\at_=.int .i64 ((a:Int)-1)/\Hid (∀q y,a<=q->L[q]?=some y->y=m0+q)/\Below w4.heap.size w4 wi)(fun at_ _=>(intOf at_+1).toNat);case atStart=>exact⟨j,ZwO _,rfl,fun q y hq hy=>by have:=(ZvO.1 hy).1;omega,ZuK _ _⟩
     case round=>
      obtain⟨a,ha,rfl,hmax,hbi⟩:=hrel;have r1:=Zw hbi q1;have r2:=Zw hbi q2;have rmem:=qmem.below hbi;have E1:=bk1 r1;have E2:=bk1 r2;have hwn:IntKind.i64.wrap ((n:Int)-(j:Int))=(m0:Int):=by rw[Zva _ (by omega)];omega
      rcases a with _|b
      ·have e0:((0:Nat):Int)-1=-1:=rfl;rw[e0];have hng:decide ((0:Int)<=-1)=false:=rfl;gi_wp2;refine wpIn_wide.2 ?_;refine ZbA w4 (by kernel_rfl) (by kernel_rfl) hbi ?_;intro hgc hbx;repeat (go_big_quiet_step (fail))
       refine wpQuiet_nil ?_;intro wb hb_wb hw_wb hs_wb;clear hgc hbx;have hJb:=Zvc (hJ'.out _ _ _ _ none hJ4'.out (ZkF hw_wb) (fun r e=>by cases e));have hend:Hid (i+1=(cmb 0 n j).length):=by have h1:=hnext.out i L pnow'.out;rw[Zhq (n-j) L (fun q x hx=>by rw[hm0];exact hmax.out q x (Zxa _) hx)]at h1;have:=ZvN.1 h1.symm;show _=_;omega
       gi_wp2;refine bodyPost_ret (results_none rfl _ _ _) rfl ?_;exact⟨⟨_,rfl⟩,.inl ⟨_,T',by rw[hpx'.out,hend.out,ZwB],hJb.out⟩⟩
      ·have e0:((b+1:Nat):Int)-1=(b:Int):=by omega
       rw[e0];obtain⟨x,hx⟩:∃x,L[b]?=some x:=⟨_,ZvL (by omega)⟩;have cx:=rmem.load (Zc8 hx);have hxn:x<n:=(Asc.lt (ZeZ 0 n j L (Zwn pnow'.out)) x (Zwn hx)).2|>fun h=>by omega
       have hbI:(b:Int)<(j:Int):=by omega
       have hng:decide ((0:Int)<=(b:Int))=true:=by simp
       have hws':IntKind.i64.wrap ((m0:Int)+(b:Int))=(m0:Int)+(b:Int):=Zva _ (by omega);have hzr:=rmem.size;by_cases hxe:x=m0+b
       ·have hxb:((x:Int)==(m0:Int)+(b:Int))=true:=by simp;omega
        have hmax2:=Zvc (show ∀q y,b<=q->L[q]?=some y->y=m0+q from fun q y hq hy=>by
         rcases Nat.eq_or_lt_of_le hq with rfl|hq;·rw[hx]at hy;cases hy;exact hxe
         ·exact hmax.out q y hq hy);have hwb:IntKind.i64.wrap ((b:Int)-1)=(b:Int)-1:=Zva _ (by omega);clear hxe hmax hx;gi_wp2;refine wpIn_wide.2 ?_;refine ZbA w4 (by kernel_rfl) (by kernel_rfl) hbi ?_;intro hgc hbx;repeat (go_big_quiet_step (fail))
        refine wpQuiet_nil ?_;intro wb hb_wb hw_wb hs_wb;clear hgc hbx;gi_wp2;go_roundw;case rel=>exact⟨b,by omega,rfl,hmax2.out,hw_wb⟩
        case measure=>simp[intOf]<;>omega
       ·have hxb:((x:Int)==(m0:Int)+(b:Int))=false:=by simp;omega
        have hwx:IntKind.i64.wrap ((x:Int)+1)=(x:Int)+1:=Zva _ (by omega);have hxc:=Zvc (show ((x:Int)+1)=((x+1:Nat):Int)by omega);have hwb:IntKind.i64.wrap ((b:Int)+1)=((b+1:Nat):Int):=by rw[Zva _ (by omega)];omega
        have hnx:=Zvc ((Zj0 (n-j) L b x hx (by rw[hm0];exact hxe) (fun q y hq hy=>by rw[hm0];exact hmax.out q y (by omega) hy)).symm.trans (hnext.out i L pnow'.out));have hx':=Zvc hx;have hmem':=Zvc rmem;have r1':=Zvc r1;have r2':=Zvc r2;clear hxe hmax hx hw0;gi_wp2;refine wpIn_wide.2 ?_;refine ZbA w4 (by kernel_rfl) (by kernel_rfl) hbi ?_;intro hgc hbx;repeat (go_big_quiet_step (fail))
        refine wpQuiet_nil ?_;intro wb hb_wb hw_wb hs_wb;clear hgc hbx;have s1:=Zw hb_wb r1;have s2:=Zw hb_wb r2;have smem:=rmem.below hb_wb;have F1:=bk1 s1;have F2:=bk1 s2;have cx2:=smem.load (Zc8 hx'.out);have fx2:=smem.frozen b;have hJb:=Zvc (hJ'.out _ _ _ _ none hJ4'.out (ZkF hw_wb) (fun r e=>by cases e));have hwz:=smem.size;clear E1 E2 r1 r2 rmem cx qmem q1 q2 D1 D2;have hbm:b<L.length:=by omega
        have tmem:=Zvc (show ZO 3 (wb.setCell ⟨Wz,b,none⟩ (.int .i64 ((x:Int)+1))) Wz (Z1 (ZbB L b x (b+1)))from by rw[<-Zql hbm,<-ZkE,hxc.out];exact smem.store b _);have t1m:=Zvc (ZA s1 (p:=⟨Wz,b,none⟩) (by dsimp only;omega) (.int .i64 ((x:Int)+1)));have t2m:=Zvc (ZA s2 (p:=⟨Wz,b,none⟩) (by dsimp only;omega) (.int .i64 ((x:Int)+1)));have hJs:=Zvc (hJ'.out _ _ _ _ (some Wz) hJb.out (ZkG wb Wz b (.int .i64 ((x:Int)+1))) (fun r e=>by cases e;exact⟨by omega,fun h=>(hTB'.out _ h).2.2 rfl,fun y _ h=>h⟩));gi_wp2;have hsz0:(wb.setCell ⟨Wz,b,none⟩ (.int .i64 ((x:Int)+1))).heap.size=wb.heap.size:=by simp
        generalize wb.setCell ⟨Wz,b,none⟩ (.int .i64 ((x:Int)+1))=w5 at*;have hTB5:=Zvc (fun r hr=>by have h1:=hTB'.out r hr;have h2:=hw_wb.size;exact⟨h1.1,by omega,h1.2.2⟩:∀r,T' r->Wz<=r/\r<w5.heap.size/\r≠Wz);clear s1 s2 F1 F2 smem cx2 fx2 hb_wb hw_wb hs_wb hbi hwx;gi_loopw [7] (fun q_ wi=>∃q:Nat,b<q/\q<=j/\q_=.int .i64 q/\Hid (ZO 3 wi Wz (Z1 (ZbB L b x q))/\wi.heap[B1]?=some (.cells #[.int .i64 j] 3 (0,0))/\wi.heap[B2]?=some (.cells #[.int .i64 n] 3 (0,0))/\J (pre++[⟨Wz,L⟩]) T' wi/\wi.heap.size=w5.heap.size))(fun q_ _=>j-(intOf q_).toNat);case atStart=>exact⟨b+1,by omega,by omega,rfl,tmem.out,t1m.out,t2m.out,hJs.out,rfl⟩
        case round=>
         obtain⟨q,hbq,hqj,rfl,hmm⟩:=hrel;obtain⟨u0,u1,u2,u3,u4⟩:=hmm.out;clear hmm;have E1:=bk1 u1;by_cases hqlt:q<j
         ·have hqI:(q:Int)<(j:Int):=by omega
          obtain⟨p,rfl⟩:∃p,q=p+1:=⟨q-1,by omega⟩;have hpq:((p+1:Nat):Int)-1=(p:Int):=by omega
          have hwp:IntKind.i64.wrap (((p+1:Nat):Int)-1)=(p:Int):=by rw[Zva _ (by omega)];omega
          have hpI:(p:Int)<(j:Int):=by omega
          have cq:=u0.load (Zc8 (by have:=Zqo (l:=L) (x:=x) hbq (by omega);rwa [ZwJ]at this));have hxp:x+(p+1-b)<=2000:=by omega
          obtain⟨y,hy⟩:∃y,x+(p+1-b)=y:=⟨_,rfl⟩;rw[hy]at cq hxp;have hwy:IntKind.i64.wrap ((y:Int)+1)=((y+1:Nat):Int):=by rw[Zva _ (by omega)];omega
          have hwq:IntKind.i64.wrap (((p+1:Nat):Int)+1)=((p+1+1:Nat):Int):=by rw[Zva _ (by omega)];omega
          have cs:=u0.loadD (k:=p+1) (by rw[Zfb,Zqn hbq (by omega)];omega);have fs:=u0.frozen (p+1);have hyc:=Zvc (show ((y:Int)+1)=((y+1:Nat):Int)by omega);have v0:=Zvc (show ZO 3 (wr.setCell ⟨Wz,p+1,none⟩ (.int .i64 ((y:Int)+1))) Wz (Z1 (ZbB L b x (p+1+1)))from by have:=Zqm (l:=L) (x:=x) hbq (by omega);rw[hy]at this;rw[<-this,<-ZkE,hyc.out];exact u0.store (p+1) _);have v1:=Zvc (ZA u1 (p:=⟨Wz,p+1,none⟩) (by dsimp only;omega) (.int .i64 ((y:Int)+1)));have v2:=Zvc (ZA u2 (p:=⟨Wz,p+1,none⟩) (by dsimp only;omega) (.int .i64 ((y:Int)+1)));have vJ:=Zvc (hJ'.out _ _ _ _ (some Wz) u3 (ZkG wr Wz (p+1) (.int .i64 ((y:Int)+1))) (fun r e=>by cases e;exact⟨by omega,fun h=>(hTB'.out _ h).2.2 rfl,fun y _ h=>h⟩));have hwy2:IntKind.i64.wrap ((y:Int)+1)=(y:Int)+1:=Zva _ (by omega);clear hwy hy u0 u1 u2 u3;gi_wp2;go_roundw;case rel=>exact⟨p+1+1,by omega,by omega,rfl,v0.out,v1.out,v2.out,vJ.out,by simpa using u4⟩
          case measure=>simp[intOf]<;>omega
         ·obtain rfl:q=j:=by omega
          have hnew:=Zvc (hSX2.out (f-1) wr ⟨i+1,ZbB L b x q,pre++[⟨Wz,L⟩],T',by omega,⟨by rw[ZvZ,plen'.out];rfl,hpx'.out,by have:=hnx.out;rw[<-this,<-hLl,Zqp],u0,u3,fun r hr=>by rw[u4];exact hTB5.out r hr,u1,u2,ZwO _,u0.size⟩⟩);clear u0 u1 u2 u3 hqlt;gi_wp2;refine⟨⟨f-1,hnew.out⟩,?_⟩;rw[hf'.out];exact Nat.lt_of_le_of_lt ((leastOf_spec (p:=fun f=>SX f wr) ⟨f-1,hnew.out⟩).2 (f-1) hnew.out) (by omega)
    ·have hJ4':=Zvc hJ4;clear hli hJ4 t1 t2;gi_wp2;refine bodyPost_ret (results_none rfl _ _ _) rfl ?_;exact⟨⟨_,rfl⟩,.inr ⟨_,T',hpw'.out,hJ4'.out⟩⟩
end Go.Proofs
namespace Go.Proofs
open Tryz
open Go.RowKit
theorem ZkZ:(ZV (.slice none 0 0) (.slice none 0 0) (.slice none 0 0) (.slice none 0 0) [] []).toArray=#[.slice none 0 0,.slice none 0 0,.slice none 0 0,.slice none 0 0,.bool false,.bool false,.bool false,.bool false,.bool false,.bool false,.bool false,.bool false,.bool false,.bool false,.bool false,.bool false,.bool false]:=by simp[ZV,boolL,Zwu]
theorem ZqX(pv ev:Value):(ZV pv ev (.slice none 0 0) (.slice none 0 0) [] []).toArray=#[pv,ev,.slice none 0 0,.slice none 0 0,.bool false,.bool false,.bool false,.bool false,.bool false,.bool false,.bool false,.bool false,.bool false,.bool false,.bool false,.bool false,.bool false]:=by simp[ZV,boolL,Zwu]
theorem Zk0(n:Nat)(z:List Nat):∀u∈boolL n z,u.oneCell'=true:=by intro u hu;obtain⟨i,-,rfl⟩:=Zwm.1 hu;rfl
theorem Zh3{pv ev zv tv:Value} {z t:List Nat} (h1:pv.oneCell'=true)(h2:ev.oneCell'=true)(h3:zv.oneCell'=true)(h4:tv.oneCell'=true):∀u∈ZV pv ev zv tv z t,u.oneCell'=true:=by
 intro u hu;simp only[ZV,Zwi,Zwf]at hu;rcases hu with rfl|rfl|rfl|rfl|hu|hu;·exact h1
 ·exact h2
 ·exact h3
 ·exact h4
 ·exact Zk0 _ _ _ hu
 ·exact Zk0 _ _ _ hu
theorem ZqY(pA eA A:Option Addr)(pn pc en ec cl:Nat)(l:List Nat)(w:World)(hl:At 1 Zc w A (Z1 l))(hasc:Asc 0 (pn+en) l)(hp:pn<=5)(he:en<=8):Calls prog 84 #[.agg #[.slice pA pn pc,.slice eA en ec],.slice A l.length cl] w fun e w'=>(∃zv tv,e=.returned (.agg (ZV (.slice pA pn pc) (.slice eA en ec) zv tv (zerosL pn l) (tightL pn l)).toArray)/\w'.ownsRow w.heap.size 3 1 zv (zerosL pn l).length ((Z1 (zerosL pn l)).map (Value.int .i64))/\w'.ownsRow w.heap.size 3 1 tv (tightL pn l).length ((Z1 (tightL pn l)).map (Value.int .i64)))/\Below w.heap.size w w':=by
 have hll:l.length<=13:=by
  have:∀(l:List Nat)(a b:Nat),Asc a b l->l.length<=b-a:=by intro l;induction l with|nil=>intro a b _;exact Zxa _|cons x t ih=>intro a b h;have h1:=ih (x+1) b h.2.2;have h2:=h.1;have h3:=h.2.1;simp only[Zv0];omega
  have:=this l 0 _ hasc;omega
 have gl:=Zvc fun W (hb:Below w.heap.size w W) k (hk:k<l.length)=>ZaF (hl.below hb) (k:=k) (by rw[Zfb];exact hk);have hasc':=Zvc fun x hx=>(Asc.lt hasc x hx).2;obtain⟨N,hN⟩:∃N,l.length=N:=⟨_,rfl⟩;have hN':=Zvc hN;rw[hN]at gl hll |-;obtain⟨i0,hi,hz0,hz1,hz2⟩:=info_parts info3;have hs17:∀x,(sizeOf 137).run prog x=.ok 17 x:=fun x=>by kernel_rfl
 have ha17:∀x,(isAgg 137).run prog x=.ok true x:=fun x=>by kernel_rfl
 obtain⟨ZF,hZF⟩:∃ZF,zerosL pn l=ZF:=⟨_,rfl⟩;obtain⟨TF,hTF⟩:∃TF,tightL pn l=TF:=⟨_,rfl⟩;rw[hZF,hTF];have hZF':=Zvc hZF;have hTF':=Zvc hTF;clear hl hasc hN hZF hTF;go_enter func84,ntmps84;go_wp2_with (refine ZaV (by with_reducible rfl) (.tmp 5) (.tmp 10) 137 (by with_reducible rfl) (w.heap.size+2) (ZV (.slice pA pn pc) (.slice eA en ec) (.slice none 0 0) (.slice none 0 0) [] []) (ZV (.slice none 0 0) (.slice none 0 0) (.slice none 0 0) (.slice none 0 0) [] []) 137 ?sp ?sq (hs17 _) ?sb rfl (Zh3 rfl rfl rfl rfl) ?_);case sp=>rfl
 case sq=>rw[ZqX];rfl
 case sb=>rw[ZkZ];(repeat (first|assumption|(refine Zz _ _ ?_;(simp;done))|refine ZB ?_|refine Zy ?_ _|refine ZA ?_ (by simp<;>omega) _))
 intro w1 hblk hg1 hsz1;have M0:w1.heap[w.heap.size]?=some (.cells #[.slice pA pn pc,.slice eA en ec] 25 (0,0)):=Zal hg1 (by(repeat (first|assumption|(refine Zz _ _ ?_;(simp;done))|refine ZB ?_|refine Zy ?_ _|refine ZA ?_ (by simp<;>omega) _))) (by simp<;>omega);have hb1:Below w.heap.size w w1:=ZW (via (ZC _ _) (via (ZC _ _) (ZC _ _))) hg1 (fun b e=>by have:=Zxh e;omega);have hs1:w1.heap.size=w.heap.size+3:=by simpa using hsz1
 have hr1:Hid (∃c,w1.heap[w.heap.size+1]?=some (.cells c 137 (0,0))/\c.size=17):=Zvc ⟨_,Zal hg1 (by(repeat (first|assumption|(refine Zz _ _ ?_;(simp;done))|refine ZB ?_|refine Zy ?_ _|refine ZA ?_ (by simp<;>omega) _))) (by simp<;>omega),rfl⟩;clear hg1 hsz1;go_wp2;go_loopw [13] (fun i wr=>∃k:Nat,k<=N/\i=.int .i64 k/\wr.heap[w.heap.size]?=some (.cells #[.slice pA pn pc,.slice eA en ec] 25 (0,0))/\Hid (∃c,wr.heap[w.heap.size+1]?=some (.cells c 137 (0,0))/\c.size=17)/\Hid (∃zv tv,BasI (w.heap.size+3) (w.heap.size+2) (.slice pA pn pc) (.slice eA en ec) (zerosL pn (l.take k)) (tightL pn (l.take k)) zv tv wr)/\Below w.heap.size w wr/\w.heap.size+3<=wr.heap.size) (fun i _=>N-(intOf i).toNat);case atStart=>exact⟨0,Zxa _,rfl,M0,hr1.out,⟨.slice none 0 0,.slice none 0 0,hblk,World.ownsRow_nil _ _ _ _,World.ownsRow_nil _ _ _ _,fun g h=>by cases h⟩,hb1,by omega⟩
 case round=>
  clear M0 hblk hb1 hs1 hr1;obtain⟨k,hk,rfl,M0,hr,hbas,hbw,hsw⟩:=hrel;obtain⟨zv,tv,hB⟩:=hbas.out;obtain⟨Bk,Bz,Bt,Bap⟩:=hB;obtain⟨zA,zc,rfl⟩:=Zac Bz;obtain⟨tA,tc,rfl⟩:=Zac Bt;have C0:=bk2 M0;have CB:=ZhV Bk;clear hbas;by_cases hlt:k<N
  ·have hkI:(k:Int)<(N:Int):=by omega
   obtain⟨b,o,rfl,hbl,ck⟩:=gl.out wr hbw k hlt;obtain⟨x,hx⟩:∃x,l[k]?=some x:=⟨_,ZvL (by rw[hN'.out];exact hlt)⟩;have hxD:(Z1 l).getD k 0=(x:Int):=by rw[ZvG,Zc8 hx];rfl
   rw[hxD]at ck;have hxb:=hasc'.out x (Zwn hx);have hsn:l.take (k+1)=l.take k++[x]:=by rw[ZwA,hx];rfl
   have hzs:=Zvc (show zerosL pn (l.take (k+1))=if x<pn then zerosL pn (l.take k)++[x]else zerosL pn (l.take k)by rw[hsn,Zqu]);have hts:=Zvc (show tightL pn (l.take (k+1))=if x<pn then tightL pn (l.take k)else tightL pn (l.take k)++[x-pn]by rw[hsn,Zqv]);clear hsn;have hzl:(zerosL pn (l.take k)).length<=13:=ZwP (Zv1 _ _) (by simp;omega);have htl:(tightL pn (l.take k)).length<=13:=by unfold tightL;rw[Zv2];exact ZwP (Zv1 _ _) (by simp;omega)
   generalize zerosL pn (l.take k)=Z at*;generalize tightL pn (l.take k)=T at*;have Bz':=Zvc Bz;have Bt':=Zvc Bt;have Bk':=Zvc Bk;have Bap':=Zvc Bap;clear hxD hx Bz Bt Bk Bap;by_cases hxp:x<pn
   ·have hxI:(x:Int)<(pn:Int):=by omega
    have hx5:(x:Int)<5:=by omega
    have hx5n:x<5:=by omega
    have cz:=ZaA Bk'.out (ZhU (.slice pA pn pc) (.slice eA en ec) (.slice zA Z.length zc) (.slice tA T.length tc) Z T x hx5n);have fz:=Zei Bk'.out (4+x);go_wp2_with (at_builtin;refine wpList_append_lies _ rfl _ _ 28 rfl (w.heap.size+3) 3 i0 (.int .i64 0) 1 8 underlying28 hi hz0 hz1 hz2 rfl (by decide) _ _ _ rfl (Bz'.out.alloc _) ⟨wr.heap.size,0,none⟩ 1 1 [.int .i64 (x:Int)] rfl rfl ?c1 ?c2 (by decide) ?c3 ?c4 ?c5 (wr.heap.size+1) ?c6 ?_);case c1=>exact Zbq _ [.int .i64 (x:Int)] _ (by simp)
    case c2=>intro u hu;simp at hu;subst hu;rfl
    case c3=>unfold maxLen;omega
    case c4=>omega
    case c5=>simp;omega
    case c6=>simp
    intro g cap w3 ho3 hg3 hor hlt3;have hbg:=(ho3.lt g rfl).1;have Bk3:=Zal hg3 (Zy Bk'.out _) (Zak Bz'.out (by omega));have M3:=Zal hg3 (Zy M0 _) (Zak Bz'.out (by omega));have Bt3:=Zvc (Zea (ZN Bt'.out (ZC _ _)) hg3 fun g' e1 e2=>Bap'.out g' e2.symm e1);have hr3:Hid (∃c,w3.heap[w.heap.size+1]?=some (.cells c 137 (0,0))/\c.size=17):=by obtain⟨c,h1,h2⟩:=hr.out;exact⟨c,Zal hg3 (Zy h1 _) (Zak Bz'.out (by omega)),h2⟩
    have ap3:=Zvc (show ∀g',(Value.slice (some ⟨g,0,none⟩) (Z.length+1) cap).ownBlock=some g'->(Value.slice tA T.length tc).ownBlock≠some g' from fun g' e1 e2=>by
     cases e1;rcases hor with h|h;·exact Bap'.out g h e2
     ·have:=(Bt'.out.lt g e2).2;omega);have hbw3:Below w.heap.size w w3:=ZW (via hbw (ZC _ _)) hg3 fun b e=>by have:=(Bz'.out.lt b e).1;omega
    have hsz3:wr.heap.size+1<=w3.heap.size:=by have:=hg3.size;simpa using this
    have CB3:=ZhV Bk3;have cz3:=ZaA Bk3 (ZhU (.slice pA pn pc) (.slice eA en ec) (.slice zA Z.length zc) (.slice tA T.length tc) Z T x hx5n);have fz3:=Zei Bk3 (4+x);have ho3':Hid (w3.ownsRow (w.heap.size+3) 3 1 (.slice (some ⟨g,0,none⟩) (Z.length+1) cap) (Z.length+1) ((Z1 (Z++[x])).map (Value.int .i64))):=Zvc (by
     have e:(Z1 (Z++[x])).map (Value.int .i64)=(Z1 Z).map (Value.int .i64)++[.int .i64 (x:Int)]:=by simp[Z1]
     rw[e];exact ho3);have Bk3':=Zvc Bk3;clear CB cz fz Bk3 ho3 hg3 hor Bz' Bt' Bk' Bap' hr C0 M0;go_wp2;go_roundw;case rel=>
     refine⟨k+1,by omega,by go_num,ZA (ZA M3 (by dsimp only;omega) _) (by dsimp only;omega) _,?_,⟨.slice (some ⟨g,0,none⟩) (Z.length+1) cap,.slice tA T.length tc,?_,?_,?_,ap3.out⟩,(hbw3.setCell (by dsimp only;omega) _).setCell (by dsimp only;omega) _,by simp;omega⟩;·obtain⟨c,h1,h2⟩:=hr3.out;exact⟨c,ZA (ZA h1 (by dsimp only;omega) _) (by dsimp only;omega) _,h2⟩
     ·rw[hzs.out,hts.out,if_pos hxp,if_pos hxp];exact ZH (ZH Bk3'.out _ (Zqs ..)) _ (Zqq _ _ _ _ _ _ x hx5n)
     ·rw[hzs.out,if_pos hxp,ZvZ];exact ownsRow_setCell_below (ownsRow_setCell_below ho3'.out (by dsimp only;omega) _) (by dsimp only;omega) _
     ·rw[hts.out,if_pos hxp];exact ownsRow_setCell_below (ownsRow_setCell_below Bt3.out (by dsimp only;omega) _) (by dsimp only;omega) _
    case measure=>simp[intOf]<;>omega
   ·obtain⟨y,hy⟩:∃y,x-pn=y:=⟨_,rfl⟩;have hxI:(pn:Int)<=(x:Int):=by omega
    have hw1:IntKind.i64.wrap ((x:Int)-(pn:Int))=(y:Int):=by rw[Zva _ (by omega)];omega
    have hx8:(y:Int)<8:=by omega
    have hx8n:y<8:=by omega
    rw[hy]at hts;have cz:=ZaA Bk'.out (ZkH (.slice pA pn pc) (.slice eA en ec) (.slice zA Z.length zc) (.slice tA T.length tc) Z T y hx8n);have fz:=Zei Bk'.out (9+y);clear hy;go_wp2_with (at_builtin;refine wpList_append_lies _ rfl _ _ 28 rfl (w.heap.size+3) 3 i0 (.int .i64 0) 1 8 underlying28 hi hz0 hz1 hz2 rfl (by decide) _ _ _ rfl (Bt'.out.alloc _) ⟨wr.heap.size,0,none⟩ 1 1 [.int .i64 (y:Int)] rfl rfl ?c1 ?c2 (by decide) ?c3 ?c4 ?c5 (wr.heap.size+1) ?c6 ?_);case c1=>exact Zbq _ [.int .i64 (y:Int)] _ (by simp)
    case c2=>intro u hu;simp at hu;subst hu;rfl
    case c3=>unfold maxLen;omega
    case c4=>omega
    case c5=>simp;omega
    case c6=>simp
    intro g cap w3 ho3 hg3 hor hlt3;have hbg:=(ho3.lt g rfl).1;have Bk3:=Zal hg3 (Zy Bk'.out _) (Zak Bt'.out (by omega));have M3:=Zal hg3 (Zy M0 _) (Zak Bt'.out (by omega));have Bz3:=Zvc (Zea (ZN Bz'.out (ZC _ _)) hg3 fun g' e1 e2=>Bap'.out g' e1 e2.symm);have hr3:Hid (∃c,w3.heap[w.heap.size+1]?=some (.cells c 137 (0,0))/\c.size=17):=by obtain⟨c,h1,h2⟩:=hr.out;exact⟨c,Zal hg3 (Zy h1 _) (Zak Bt'.out (by omega)),h2⟩
    have ap3:=Zvc (show ∀g',(Value.slice zA Z.length zc).ownBlock=some g'->(Value.slice (some ⟨g,0,none⟩) (T.length+1) cap).ownBlock≠some g' from fun g' e1 e2=>by
     cases e2;rcases hor with h|h;·exact Bap'.out g e1 h
     ·have:=(Bz'.out.lt g e1).2;omega);have hbw3:Below w.heap.size w w3:=ZW (via hbw (ZC _ _)) hg3 fun b e=>by have:=(Bt'.out.lt b e).1;omega
    have hsz3:wr.heap.size+1<=w3.heap.size:=by have:=hg3.size;simpa using this
    have CB3:=ZhV Bk3;have cz3:=ZaA Bk3 (ZkH (.slice pA pn pc) (.slice eA en ec) (.slice zA Z.length zc) (.slice tA T.length tc) Z T y hx8n);have fz3:=Zei Bk3 (9+y);have ho3':Hid (w3.ownsRow (w.heap.size+3) 3 1 (.slice (some ⟨g,0,none⟩) (T.length+1) cap) (T.length+1) ((Z1 (T++[y])).map (Value.int .i64))):=Zvc (by
     have e:(Z1 (T++[y])).map (Value.int .i64)=(Z1 T).map (Value.int .i64)++[.int .i64 (y:Int)]:=by simp[Z1]
     rw[e];exact ho3);have Bk3':=Zvc Bk3;clear CB cz fz Bk3 ho3 hg3 hor Bz' Bt' Bk' Bap' hr C0 M0;go_wp2;go_roundw;case rel=>
     refine⟨k+1,by omega,by go_num,ZA (ZA M3 (by dsimp only;omega) _) (by dsimp only;omega) _,?_,⟨.slice zA Z.length zc,.slice (some ⟨g,0,none⟩) (T.length+1) cap,?_,?_,?_,ap3.out⟩,(hbw3.setCell (by dsimp only;omega) _).setCell (by dsimp only;omega) _,by simp;omega⟩;·obtain⟨c,h1,h2⟩:=hr3.out;exact⟨c,ZA (ZA h1 (by dsimp only;omega) _) (by dsimp only;omega) _,h2⟩
     ·rw[hzs.out,hts.out,if_neg hxp,if_neg hxp];exact ZH (ZH Bk3'.out _ (Zqt ..)) _ (Zqr _ _ _ _ _ _ y hx8n)
     ·rw[hzs.out,if_neg hxp];exact ownsRow_setCell_below (ownsRow_setCell_below Bz3.out (by dsimp only;omega) _) (by dsimp only;omega) _
     ·rw[hts.out,if_neg hxp,ZvZ];exact ownsRow_setCell_below (ownsRow_setCell_below ho3'.out (by dsimp only;omega) _) (by dsimp only;omega) _
    case measure=>simp[intOf]<;>omega
  ·obtain rfl:k=N:=by omega
   have hall:l.take k=l:=by rw[<-hN'.out,ZwB]
   clear CB;rw[hall,hZF'.out,hTF'.out]at Bk;rw[hall,hZF'.out]at Bz;rw[hall,hTF'.out]at Bt;have Bz':=Zvc Bz;have Bt':=Zvc Bt;clear hlt hall Bap Bz Bt;obtain⟨cr,hr1,hr2⟩:=hr.out;go_wp2_with (first
    |(refine Zeg (by with_reducible rfl) (.tmp 5) 137 (by with_reducible rfl) (w.heap.size+2) (ZV (.slice pA pn pc) (.slice eA en ec) (.slice zA ZF.length zc) (.slice tA TF.length tc) ZF TF) 137 ?lp (ha17 _) (hs17 _) ?lb ?_)|(refine ZaV (by with_reducible rfl) (.tmp 4) (.tmp 46) 137 (by with_reducible rfl) (w.heap.size+1) (ZV (.slice pA pn pc) (.slice eA en ec) (.slice zA ZF.length zc) (.slice tA TF.length tc) ZF TF) cr.toList 137 ?sp ?sq (hs17 _) ?sb ?sl (Zh3 rfl rfl rfl rfl) ?_));case lp=>rfl
   case lb=>exact Bk
   case sb=>rw[Array.toArray_toList];exact hr1
   case sl=>rw[Array.length_toList,hr2];rfl
   intro w2 hblk2 hg2 hsz2;have hbw2:Below w.heap.size w w2:=ZW hbw hg2 fun b e=>by have:=Zxh e;omega
   have Bz2:=Zea Bz'.out hg2 fun g' e1 e2=>by have:=(Bz'.out.lt g' e1).1;have:=Zxh e2;omega
   have Bt2:=Zea Bt'.out hg2 fun g' e1 e2=>by have:=(Bt'.out.lt g' e1).1;have:=Zxh e2;omega
   have Bz3:=Zvc Bz2;have Bt3:=Zvc Bt2;clear Bk Bz2 Bt2 Bz' Bt' hg2 hr1 hr2 C0 M0 hr;go_wp2;refine bodyPost_ret (v:=.agg (ZV (.slice pA pn pc) (.slice eA en ec) (.slice zA ZF.length zc) (.slice tA TF.length tc) ZF TF).toArray) ?_ rfl ⟨⟨_,_,rfl,ZaS (base:=w.heap.size) Bz3.out (ZwM _ 3),ZaS (base:=w.heap.size) Bt3.out (ZwM _ 3)⟩,hbw2⟩;have hrun:(loadVar 137 ⟨w.heap.size+1,0,none⟩).run prog w2=.ok (.agg (ZV (.slice pA pn pc) (.slice eA en ec) (.slice zA ZF.length zc) (.slice tA TF.length tc) ZF TF).toArray) w2:=Z5 (ha17 _) (hs17 _) hblk2;exact Zc7 rfl rfl hrun
end Go.Proofs
