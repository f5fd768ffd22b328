import Derived.Test.YtphenbjioenjfaaGreatDoorMg4
import Derived.RangeFuncNested
import Derived.RangeFuncBound
import Derived.Shelf.RegionOpen
import Derived.OwnWalkIn
import Derived.LoopNIn
import Derived.LoopIn
import Derived.Deep.LoopGhost
theorem Qo{P:Prop}(h:P:=by simp; omega):P:=h
theorem Qh{P:Prop}(h:P:=by with_reducible rfl):P:=h
theorem Qg{P:Prop}(h:P:=by dsimp only;omega):P:=h
set_option linter.unusedVariables false
set_option linter.unusedSimpArgs false
set_option maxRecDepth 100000
set_option maxHeartbeats 16000000
namespace Go
theorem ZyV:type_of% @RowKit.Below.setCell:=@RowKit.Below.setCell
theorem Zy6:type_of% @Bool.or_false:=@Bool.or_false
theorem Zy7:type_of% @Bool.or_self:=@Bool.or_self
theorem Zy8:type_of% @Bool.or_true:=@Bool.or_true
theorem Zzk:type_of% @Int.le_of_mul_le_mul_left:=@Int.le_of_mul_le_mul_left
theorem ZzD:type_of% @Int.not_lt:=@Int.not_lt
theorem ZzI:type_of% @List.all_cons:=@List.all_cons
theorem ZzO:type_of% @List.append_nil:=@List.append_nil
theorem ZzS:type_of% @List.contains_cons:=@List.contains_cons
theorem ZzV:type_of% @List.contains_nil:=@List.contains_nil
theorem Zz3:type_of% @List.eq_of_mem_replicate:=@List.eq_of_mem_replicate
theorem Zz5:type_of% @List.ext_getElem?:=@List.ext_getElem?
theorem ZAn:type_of% @List.getElem?_eq_none:=@List.getElem?_eq_none
theorem ZAs:type_of% @List.getElem?_range:=@List.getElem?_range
theorem ZAu:type_of% @List.getElem?_set:=@List.getElem?_set
theorem ZAv:type_of% @List.getElem?_set_ne:=@List.getElem?_set_ne
theorem ZAA:type_of% @List.length_append:=@List.length_append
theorem ZAC:type_of% @List.length_filter_le:=@List.length_filter_le
theorem ZAE:type_of% @List.length_nil:=@List.length_nil
theorem ZAW:type_of% @List.mem_append_right:=@List.mem_append_right
theorem ZAZ:type_of% @List.mem_cons_self:=@List.mem_cons_self
theorem ZA9:type_of% @List.mem_singleton:=@List.mem_singleton
theorem ZBc:type_of% @List.nodup_cons:=@List.nodup_cons
theorem ZB5:type_of% @Option.getD_some:=@Option.getD_some
end Go
namespace Go.Proofs
open Go.RowKit
variable {M:Nat->Prop} {A B W W':World}
structure Lie (M:Nat->Prop)(W W':World):Prop where
 size:W.heap.size<=W'.heap.size
 same:∀k,k<W.heap.size->¬M k->W'.heap[k]?=W.heap[k]?
theorem Lie.refl(M:Nat->Prop)(W:World):Lie M W W:=⟨ZBF _,fun _ _ _=>rfl⟩
theorem Lie.trans{C:World} (h:Lie M A B)(k:Lie M B C):Lie M A C:=⟨ZBG h.size k.size,fun i d f=>(k.same i (ZBJ d h.size) f).trans (h.same i d f)⟩
theorem Lie.mono{d:Nat->Prop} (h:Lie M A B)(hm:∀k,k<A.heap.size->M k->d k):Lie d A B:=⟨h.size,fun k f i=>h.same k f fun e=>i (hm k f e)⟩
theorem Lie.of_below(M:Nat->Prop)(h:QB W W'):Lie M W W':=⟨h.size,fun k d _=>h.block k d⟩
theorem Lie.of_grown{row:Option Nat} (h:W.grownBy W' row)(i:∀r,row=some r->M r):Lie M W W':=⟨h.size,fun k d f=>h.block k d fun e=>f (i k e.symm)⟩
theorem Lie.putObj(W:World)(l:Nat)(o:Obj)(h:M l):Lie M W (W.putObj l o):=.of_grown (grownBy_putObj' W l o) fun r e=>by cases e;exact h
theorem Lie.obj(h:Lie M W W') {k:Nat} {o:Obj} (hk:¬M k)(d:W.heap[k]?=some o):W'.heap[k]?=some o:=(h.same k (Zyy.1 d).1 hk).trans d
def ZfS{α:Type} (d:α->Nat->Prop)(B:Nat)(J:List α->(Nat->Prop)->World->Prop):Prop:=∀s T W W' row,J s T W->W.grownBy W' row->(∀r,row=some r->B<=r/\¬T r/\∀x∈s,¬d x r)->J s T W'
def Zmz{α:Type} (F:Fence)(n:Nat)(P:Program)(g:Nat)(lb:Array Value)(h:α->Array Value)(o:α->Nat->Prop)(M:Nat->Prop)(p:List α->α->World->Prop)(S s:List α->Prop)(N:Nat)(w:World):Prop:=∀(l:Nat)(J m:List α->(Nat->Prop)->World->Prop)(W:World),QB w W->w.heap.size<=l->l<W.heap.size->ZfS o W.heap.size J->ZfS o W.heap.size m->(∀d T x f,J d T f->(∀r,T r->W.heap.size<=r/\r<f.heap.size)->(∀y∈d++[x],∀r,o y r->W.heap.size<=r)->d.length<N->p d x f->YieldAt F (n-1) P l (h x) f fun e W'=>∃i,(∀r,i r->T r∨f.heap.size<=r)/\(∀r,i r->r<W'.heap.size)/\Lie (fun k=>M k∨T k∨k=l) f W'/\((e=.returned true/\J (d++[x]) i W')∨(e=.returned false/\m (d++[x]) i W')))->J [] (fun _=>False) W->CallsIn F n P g (#[.func (.yield l) #[] #[]]++lb) W fun e W'=>(∃v,e=.returned v)/\((∃xs T,S xs/\J xs T W')∨(∃d T,s d/\m d T W'))
def ZsX{α:Type} (M T:Nat->Prop)(I:List α->(Nat->Prop)->World->Prop)(f:Code->List α->(Nat->Prop)->World->Prop)(xs:List α)(W:World):Exit->Act->World->Prop|.normal,_,W'=>∃d,(∀r,d r->T r∨W.heap.size<=r)/\(∀r,d r->r<W'.heap.size)/\Lie (fun k=>M k∨T k) W W'/\I xs d W'|.ret,_,W'=>∃d,(∀r,d r->T r∨W.heap.size<=r)/\(∀r,d r->r<W'.heap.size)/\Lie (fun k=>M k∨T k) W W'/\f .ret xs d W'|.exit id,_,W'=>∃d,(∀r,d r->T r∨W.heap.size<=r)/\(∀r,d r->r<W'.heap.size)/\Lie (fun k=>M k∨T k) W W'/\f (.exit id) xs d W'|.goto t,_,W'=>∃d,(∀r,d r->T r∨W.heap.size<=r)/\(∀r,d r->r<W'.heap.size)/\Lie (fun k=>M k∨T k) W W'/\f (.goto t) xs d W'|.panic _,_,_=>False|.outgrown,_,_=>False
variable {F:Fence} {n:Nat} {P:Program}
theorem ZsY{α:Type} {g:Operand} {ps:Array Tmp} {assign body:Code} {Q:Exit->Act->World->Prop} {a:Act} {w:World} (bE:F.round=none)(h1:1<=n) {gf:Nat} {lb:Array Value} (hg:a.eval g=.func (.func gf) #[] lb)(aR:F.fn gf)(eg:∀args w,(callFunc gf args).run P w=.ok (.enter gf args) w) {X:α->Array Value} {gv:α->Nat->Prop} {Ok:List α->α->World->Prop} {S Sp:List α->Prop} {N:Nat} (aQ:Zmz F (n-1) P gf lb X gv M Ok S Sp N w)(hM:∀k,M k->k<w.heap.size)(bD:∀x,(X x).size=ps.size)(I:List α->(Nat->Prop)->World->Prop)(Ix:Code->List α->(Nat->Prop)->World->Prop)(Ax:List α->(Nat->Prop)->α->Act->World->Prop)(hI:ZfS gv w.heap.size I)(hIx:∀c,ZfS gv w.heap.size (Ix c))(hAx:∀d T x a (W:World)(l:Nat)(o o':Obj),w.heap.size<=l->¬T l->(∀y∈d++[x],¬gv y l)->W.heap[l]?=some o->o.isCells=false->Ax d T x a W->Ax d T x a (W.putObj l o'))(h0:I [] (fun _=>False) w)(aB:∀(l:Nat)(d:List α)(T:Nat->Prop)(x:α)(W:World),I d T W->(∀r,T r->w.heap.size<=r/\r<W.heap.size)->d.length<N->Ok d x W->(∀y∈d++[x],∀r,gv y r->w.heap.size<=r)->assign.wpIn (F.inRound l) (n-1-1) P (Exit.then (fun a₁ W₁=>Lie (fun k=>M k∨T k) W W₁/\Ax d T x a₁ W₁) (fun _ _ _=>False)) {tmps:=(ps.zip (X x)).foldl (fun t (p,v)=>t.setIfInBounds p v) a.tmps,defers:=[]} W)(aJ:∀(l:Nat) (d:List α) (T:Nat->Prop) (x:α) (a₁:Act) (W:World),Ax d T x a₁ W->(∀r,T r->w.heap.size<=r/\r<W.heap.size)->d.length<N->body.wpIn (F.inRound l) (n-1-1) P (ZsX M T I Ix (d++[x]) W) a₁ W)(aK:∀(D:Nat)(xs:List α)(T:Nat->Prop)(W:World),S xs->I xs T W->D=w.heap.size->W.heap[D]?=some (.deferred (some []))->Q .normal {a with defers:={target:=.collected D,args:=#[]}::a.defers} W)(aM:∀(D:Nat)(c:Code)(d:List α)(T:Nat->Prop)(W:World),Sp d->Ix c d T W->D=w.heap.size->W.heap[D]?=some (.deferred (some []))->c.wpIn F n P Q {a with defers:={target:=.collected D,args:=#[]}::a.defers} W):(Code.rangeFunc g ps assign body).wpIn F n P Q a w:=by
 refine wpIn_rangeFunc ?_;intro fn aX;rw[bE];obtain⟨i,m⟩:∃i:LoopState->Option Code->Loop,i=fun st pe=>{state:=st,pending:=pe,fn,tmps:=a.tmps,params:=ps,assign,body,defers:=w.heap.size}:=⟨_,rfl⟩;obtain⟨Z,aA⟩:=Qu ((w.alloc (.deferred (some []))).alloc (.loop (i .ready none)));have bG:Z.heap.size=w.heap.size+2:=by rw[<-aA];simp
 have aU:Z.heap[w.heap.size+1]?=some (.loop (i .ready none)):=by rw[<-aA];have:=World.alloc_heap_new (w.alloc (.deferred (some []))) (.loop (i .ready none));rwa [World.size_alloc]at this
 have aT:Z.heap[w.heap.size]?=some (.deferred (some [])):=by rw[<-aA];exact(RowKit.Below.heap_alloc _ _ _ Qd).trans (World.alloc_heap_new w _)
 have aS:I [] (fun _=>False) Z:=by rw[<-aA];refine hI _ _ _ _ none (hI _ _ _ _ none h0 (World.grownBy_alloc w _ none) (fun r e=>by cases e)) (World.grownBy_alloc _ _ none) (fun r e=>by cases e)
 have aW:QB w Z:=by rw[<-aA];exact((ZyU _ w).alloc (ZBF _) _).alloc Qd _
 refine⟨w.heap.size+1,[{target:=.collected w.heap.size,args:=#[]}],Z,{target:=.fn (.func gf) lb,args:=#[.func (.yield (w.heap.size+1)) #[] #[]]},Z,gf,#[.func (.yield (w.heap.size+1)) #[] #[]]++lb,Z,?_,?_,?_,?_,fun _=>h1,?_⟩;·rw[<-aA,m];exact run_enterLoop_outer _ _ _ _ _
 ·simp only[resolve,hg];simp[go_sem]
 ·intro f' aO;simp[Target.leads]at aO;subst aO;exact aR
 ·simp[invoke,go_sem,eg]
 ·have Y:∀{A B:World} {row:Option Nat} {k:Nat} {o:Obj},A.grownBy B row->(∀r,row=some r->Z.heap.size<=r)->k<w.heap.size+2->A.heap[k]?=some o->B.heap[k]?=some o:=fun H J hk ho=>by rw[H.block _ (Zyy.1 ho).1 (fun e=>by have:=J _ e.symm;omega),ho]
  have G:∀{K:List α->(Nat->Prop)->World->Prop},ZfS gv w.heap.size K->∀{s T W} (o:Obj),K s T W->(∀r,T r->w.heap.size+2<=r)->(∀y∈s,∀r,gv y r->w.heap.size+2<=r)->K s T (W.putObj (w.heap.size+1) o):=fun hK s T W o hs L hv=>hK _ _ _ _ _ hs (grownBy_putObj' W _ o) fun r e=>by cases e;exact⟨Qa,fun h=>by have:=L _ h;omega,fun y hy h=>by have:=hv y hy _ h;omega⟩
  refine(aQ (w.heap.size+1)
   (fun d T W=>I d T W/\W.heap[w.heap.size+1]?=some (.loop (i .ready none))/\W.heap[w.heap.size]?=some (.deferred (some []))/\(∀r,T r->w.heap.size+2<=r)/\(∀y∈d,∀r,gv y r->w.heap.size+2<=r))
   (fun d T W=>∃c,Ix c d T W/\W.heap[w.heap.size+1]?=some (.loop (i .done (some c)))/\W.heap[w.heap.size]?=some (.deferred (some []))/\(∀r,T r->w.heap.size+2<=r)/\(∀y∈d,∀r,gv y r->w.heap.size+2<=r)) Z aW Qa Qa
   (fun s T A B row hs H J=>⟨hI s T A B row hs.1 H (fun r e=>by have:=J r e;exact⟨Qa,this.2⟩),Y H (fun r e=>(J r e).1) Qa hs.2.1,Y H (fun r e=>(J r e).1) Qa hs.2.2.1,hs.2.2.2⟩)
   (fun s T A B row hs H J=>by obtain⟨c,hc,hl,hk,bF⟩:=hs;exact⟨c,hIx c s T A B row hc H (fun r e=>by have:=J r e;exact⟨Qa,this.2⟩),Y H (fun r e=>(J r e).1) Qa hl,Y H (fun r e=>(J r e).1) Qa hk,bF⟩) ?_ ⟨aS,aU,aT,fun r h=>h.elim,fun y hy=>by cases hy⟩).mono ?_
  ·rintro d T x W ⟨hi,hl,hk,aE,bH⟩ hT aY aH aP;have hy:=run_yield (P:=P) (args:=X x) hl (by rw[m];exact bD x);rw[m]at hy;have aI:∀r,T r->w.heap.size<=r/\r<W.heap.size:=fun r h=>⟨by have:=aE r h;omega,(hT r h).2⟩;have u:∀y∈d++[x],∀r,gv y r->w.heap.size+2<=r:=fun y hy r h=>by have:=aY y hy r h;omega
   have aL:¬(M (w.heap.size+1)∨T (w.heap.size+1)):=by
    rintro(h|h);·have:=hM _ h;omega
    ·have:=aE _ h;omega
   have aN:¬(M w.heap.size∨T w.heap.size):=by
    rintro(h|h);·have:=hM _ h;omega
    ·have:=aE _ h;omega
   refine⟨fn,_,assign,body,hy,roundIn_of_wpIn aX (wpIn_mono (aB _ d T x W hi aI aH aP (fun y hy r h=>by have:=u y hy r h;omega)) ?_)⟩;rintro e a2 W2 hp;cases e with
   |normal=>
    obtain⟨ko,hx⟩:=hp;have aF:=ko.obj aL hl;have aZ:=ko.obj aN hk;have bC:w.heap.size+1<W2.heap.size:=(Zyy.1 aF).1;have bB:(W2.putObj (w.heap.size+1) (.loop {i .ready none with state:=.busy})).heap[w.heap.size+1]?=some (.loop {i .ready none with state:=.busy}):=World.putObj_heap_same bC;have bA:(W2.putObj (w.heap.size+1) (.loop {i .ready none with state:=.busy})).heap[w.heap.size]?=some (.deferred (some [])):=(World.putObj_heap_other Qa).trans aZ;refine⟨_,run_beginRound aF (by rw[m]),?_⟩;refine wpIn_mono (aJ _ d T x a2 _ (hAx d T x a2 _ _ _ _ Qa (fun h=>aL (.inr h)) (fun y hy h=>by have:=u y hy _ h;omega) aF rfl hx) (fun r h=>⟨(aI r h).1,by rw[World.putObj_size];exact ZBJ (aI r h).2 ko.size⟩) aH) ?_;have st:Lie (fun k=>M k∨T k∨k=w.heap.size+1) W (W2.putObj (w.heap.size+1) (.loop {i .ready none with state:=.busy})):=(ko.mono (fun k _ h=>by rcases h with h|h;exact .inl h;exact .inr (.inl h))).trans (Lie.putObj _ _ _ (.inr (.inr rfl)));have aC:∀(f:Option Code) (W3:World),Lie (fun k=>M k∨T k) (W2.putObj (w.heap.size+1) (.loop {i .ready none with state:=.busy})) W3->(Instr.endRound (w.heap.size+1) f).run P W3=.ok (.bool f.isNone) (W3.putObj (w.heap.size+1) (.loop (i (if f.isNone then .ready else .done) f)))/\(W3.putObj (w.heap.size+1) (.loop (i (if f.isNone then .ready else .done) f))).heap[w.heap.size+1]?=some (.loop (i (if f.isNone then .ready else .done) f))/\(W3.putObj (w.heap.size+1) (.loop (i (if f.isNone then .ready else .done) f))).heap[w.heap.size]?=some (.deferred (some []))/\Lie (fun k=>M k∨T k∨k=w.heap.size+1) W (W3.putObj (w.heap.size+1) (.loop (i (if f.isNone then .ready else .done) f))):=fun f W3 z=>by have E:=z.obj aL bB;have:=run_endRound (P:=P) f E;rw[m]at this |-;refine⟨this,World.putObj_heap_same (Zyy.1 E).1,(World.putObj_heap_other Qa).trans (z.obj aN bA),?_⟩;rw[m]at st;rw[m]at z;exact(st.trans (z.mono (fun k _ h=>by rcases h with h|h;exact .inl h;exact .inr (.inl h)))).trans (Lie.putObj _ _ _ (.inr (.inr rfl)))
    have aG:W.heap.size<=(W2.putObj (w.heap.size+1) (.loop {i .ready none with state:=.busy})).heap.size:=by rw[World.putObj_size];exact ko.size
    have aD:∀O:Nat->Prop,(∀r,O r->T r∨(W2.putObj (w.heap.size+1) (.loop {i .ready none with state:=.busy})).heap.size<=r)->∀r,O r->w.heap.size+2<=r:=fun O h r J=>by
     rcases h r J with h|h;·exact aE r h
     ·have:=ko.size;rw[World.putObj_size]at h;have:Z.heap.size<=W.heap.size∨True:=.inr trivial;have:=(Zyy.1 aF).1;omega
    rintro e a3 W3 hp;cases e with
    |normal=>obtain⟨O,t1,t2,z,R⟩:=hp;obtain⟨J,E,U,V⟩:=aC none W3 z;have L:=aD O t1;exact⟨_,_,J,O,fun r h=>(t1 r h).imp id (ZBG aG),fun r h=>by rw[World.putObj_size];exact t2 r h,V,.inl ⟨rfl,G hI _ R L u,E,U,L,u⟩⟩|ret=>obtain⟨O,t1,t2,z,R⟩:=hp;obtain⟨J,E,U,V⟩:=aC (some .ret) W3 z;have L:=aD O t1;exact⟨_,_,J,O,fun r h=>(t1 r h).imp id (ZBG aG),fun r h=>by rw[World.putObj_size];exact t2 r h,V,.inr ⟨rfl,.ret,G (hIx _) _ R L u,E,U,L,u⟩⟩|exit id=>obtain⟨O,t1,t2,z,R⟩:=hp;obtain⟨J,E,U,V⟩:=aC (some (.exit id)) W3 z;have L:=aD O t1;exact⟨_,_,J,O,fun r h=>(t1 r h).imp (fun h=>h) (ZBG aG),fun r h=>by rw[World.putObj_size];exact t2 r h,V,.inr ⟨rfl,.exit id,G (hIx _) _ R L u,E,U,L,u⟩⟩|goto t=>obtain⟨O,t1,t2,z,R⟩:=hp;obtain⟨J,E,U,V⟩:=aC (some (.goto t)) W3 z;have L:=aD O t1;exact⟨_,_,J,O,fun r h=>(t1 r h).imp id (ZBG aG),fun r h=>by rw[World.putObj_size];exact t2 r h,V,.inr ⟨rfl,.goto t,G (hIx _) _ R L u,E,U,L,u⟩⟩|panic ch=>exact hp.elim|outgrown=>exact hp.elim
   |_=>exact hp.elim
  ·rintro e W2 ⟨⟨v,rfl⟩,(⟨xs,T,hS,hi,hl,hk,L,hv⟩|⟨d,T,aV,c,hi,hl,hk,L,hv⟩)⟩;·exact⟨none,_,by have:=run_endLoop (P:=P) hl (by rw[m];simp);rw[m]at this;exact this,aK _ xs T _ hS (G hI _ hi L hv) rfl ((World.putObj_heap_other Qa).trans hk)⟩
   ·exact⟨some c,_,by have:=run_endLoop (P:=P) hl (by rw[m];simp);rw[m]at this;exact this,aM _ c d T _ aV (G (hIx c) _ hi L hv) rfl ((World.putObj_heap_other Qa).trans hk)⟩
section
variable {ops:Array Oper} {md:Region.Mode} {C:World->Prop}
end
variable {l:List Nat} {k x j a q:Nat} {W W':World}
attribute [local go_sem] Oper.semAt_some structure ChV where
 b:Nat
 l:List Nat
def Zjc(x:ChV):Array Value:=#[.slice (some x.b) x.l.length x.l.length]
def ZN(l:List Nat):List Int:=l.map fun(a:Nat)=>(a:Int)
def gvN{α:Type} (_:α)(_:Nat):Prop:=False
theorem ZcD(l:List Nat):(ZN l).length=l.length:=by simp[ZN]
theorem ZcE{x:Nat} (h:l[k]?=some x):(ZN l)[k]?=some (x:Int):=by simp[ZN,h]
theorem ZmA(l:List Nat)(k x:Nat):(ZN l).set k (x:Int)=ZN (l.set k x):=by simp[ZN,List.map_set]
theorem ZM.grown{T:TypeId} {B:Nat} {l:List Int} (h:ZM T W B l) {M:Nat->Prop} (d:Lie M W W')(hB:¬M B):ZM T W' B l:=d.obj hB h
theorem ZmB(hb:QB W W'):W.grownBy W' none:=⟨hb.os,hb.tape,hb.output,hb.size,fun k d _=>hb.block k d⟩
theorem ZmC(W:World) (B o:Nat) (v:Value):W.grownBy (W.setCell ⟨B,o,none⟩ v) (some B):=⟨rfl,rfl,rfl,Qd,fun k f d=>ZyT W _ v k fun e=>d (by rw[e])⟩
structure ChI (n k:Nat)(M:Nat->Prop)(w:World)(J:List ChV->(Nat->Prop)->World->Prop)(W0 B B1 B2:Nat)(i:Nat)(l:List Nat)(wr:World)(pre:List ChV)(T:Nat->Prop):Prop where
 plen:pre.length=i
 pre_:pre.map ChV.l=(cmb 0 n k).take i
 now:(cmb 0 n k)[i]?=some l
 mem:ZM 3 wr B (ZN l)
 jj:J pre T wr
 tt:∀r,T r->W0<=r/\r<wr.heap.size/\r≠B
 c1:wr.heap[B1]?=some (.cells #[.int .i64 k] 3 (0,0))
 c2:wr.heap[B2]?=some (.cells #[.int .i64 n] 3 (0,0))
 sz:W0<=B/\B<wr.heap.size
def Zdj(k j:Nat):List Int:=ZN (List.range' 0 j)++List.replicate (k-j) 0
theorem ZsZ{j:Nat} (h:j<k):(Zdj k j).set j (j:Int)=Zdj k (j+1):=by unfold Zdj;rw[ZBk _ _ (by simp[ZN]),List.range'_1_concat,show k-j=(k-(j+1))+1 by omega,ZBi];simp[ZN]
theorem Zs0(h:j<=k):(Zdj k j).length=k:=by simp[Zdj,ZN];omega
theorem Zs1(k:Nat):Zdj k k=ZN (List.range' 0 k):=by simp[Zdj]
def ZbV(l:List Nat) (a x q:Nat):List Nat:=l.take a++List.range' (x+1) (q-a)++l.drop q
theorem Zs2(h:a<l.length):l.set a (x+1)=ZbV l a x (a+1):=by unfold ZbV;rw[show a+1-a=1 by omega];simp[List.set_eq_take_append_cons_drop,h]
theorem Zs3(h:a<q)(hq:q<l.length):(ZbV l a x q).set q (x+(q-a)+1)=ZbV l a x (q+1):=by unfold ZbV;rw[ZzN,ZBk _ _ Qk,ZAH,ZBk _ _ Qk,List.length_range',show q-min a l.length-(q-a)=0 by omega,ZzY hq,List.set_cons_zero,show q+1-a=(q-a)+1 by omega,List.range'_1_concat];simp;omega
theorem Zs4(h:a<q)(hq:q<=l.length):(ZbV l a x q).length=l.length:=by simp[ZbV];omega
theorem Zs5(h:a<q)(hq:q<=l.length):(ZbV l a x q)[q-1]?=some (x+(q-a)):=by grind[ZbV]
theorem Zs6:ZbV l a x l.length=l.take a++List.range' (x+1) (l.length-a):=by simp[ZbV]
variable {w:World} {b T:Nat} {cs:List Value}
def boolL(n:Nat)(z:List Nat):List Value:=(List.range n).map fun i=>.bool (decide (i∈z))
def Z3(pv d h f:Value)(z t:List Nat):List Value:=pv::d::h::f::(boolL 5 z++boolL 8 t)
theorem Zg5(n k:Nat)(z:List Nat)(h:k<n):(boolL n z)[k]?=some (.bool (decide (k∈z))):=by simp[boolL,ZAs h]
theorem Zjd(pv d i f:Value)(z t:List Nat)(k:Nat)(h:k<5):(Z3 pv d i f z t)[4+k]?=some (.bool (decide (k∈z))):=by rw[ZBv];show (boolL 5 z++boolL 8 t)[k]?=_;rw[ZAh (by simp[boolL];exact h),Zg5 5 k z h]
theorem ZmD(pv d i f:Value)(z t:List Nat)(k:Nat)(h:k<8):(Z3 pv d i f z t)[9+k]?=some (.bool (decide (k∈t))):=by rw[ZBv,show k+9=(k+5)+4 by omega];show (boolL 5 z++boolL 8 t)[k+5]?=_;rw[ZAi (by simp[boolL]),show k+5-(boolL 5 z).length=k by simp[boolL],Zg5 8 k t h]
theorem ZmE(n x:Nat)(z:List Nat)(h:x<n):(boolL n z).set x (.bool true)=boolL n (z++[x]):=by
 apply Zz5;intro j;rw[ZAu];by_cases d:j<n
 ·rw[Zg5 n j _ d,Zg5 n j _ d];by_cases e:x=j;·subst e;simp[boolL,h]
  ·rw[if_neg e];have:¬j=x:=fun h=>e h.symm;simp[this]
 ·have f:(boolL n z)[j]?=none:=ZAn (by simp[boolL];omega);have i:(boolL n (z++[x]))[j]?=none:=ZAn (by simp[boolL];omega);rw[f,i,if_neg Qa]
theorem Zs7(pv d i f:Value) (z t:List Nat) (x:Nat) (h:x<5):(Z3 pv d i f z t).toArray.setIfInBounds (4+x) (.bool true)=(Z3 pv d i f (z++[x]) t).toArray:=by rw[List.setIfInBounds_toArray,ZBv 4 x];congr 1;show pv::d::i::f::(boolL 5 z++boolL 8 t).set x (.bool true)=_;rw[List.set_append_left _ _ (by simp[boolL];exact h),ZmE 5 x z h];rfl
theorem Zs8(pv d i f:Value) (z t:List Nat) (x:Nat) (h:x<8):(Z3 pv d i f z t).toArray.setIfInBounds (9+x) (.bool true)=(Z3 pv d i f z (t++[x])).toArray:=by rw[List.setIfInBounds_toArray,ZBv 9 x,show x+9=(x+5)+4 by omega];congr 1;show pv::d::i::f::(boolL 5 z++boolL 8 t).set (x+5) (.bool true)=_;rw[ZBk _ _ (by simp[boolL]),show x+5-(boolL 5 z).length=x by simp[boolL],ZmE 8 x t h];rfl
theorem Zs9(pv d h f v:Value)(z t:List Nat):(Z3 pv d h f z t).toArray.setIfInBounds 2 v=(Z3 pv d v f z t).toArray:=by simp[Z3]
theorem Zta(pv d f h v:Value)(z t:List Nat):(Z3 pv d f h z t).toArray.setIfInBounds 3 v=(Z3 pv d f v z t).toArray:=by simp[Z3]
theorem ZaQ(h:w.heap[b]?=some (.cells cs.toArray T)) {k:Nat} {v:Value} (hv:cs[k]?=some v):w.cell? ⟨b,k,none⟩=some v:=by unfold World.cell?;simp only[h];simpa using hv
theorem ZeX(h:w.heap[b]?=some (.cells cs.toArray T))(k:Nat):w.frozen? ⟨b,k,none⟩=false:=by unfold World.frozen?;simp only[h];simp
theorem Zje{pv d i f:Value} {z t:List Nat} (h:w.heap[b]?=some (.cells (Z3 pv d i f z t).toArray 116 (0,0))):w.cell? b=some pv/\w.cell? ⟨b,1,none⟩=some d/\w.cell? ⟨b,2,none⟩=some i/\w.cell? ⟨b,3,none⟩=some f/\w.frozen? ⟨b,2,none⟩=false/\w.frozen? ⟨b,3,none⟩=false/\b<w.heap.size:=⟨ZaQ h rfl,ZaQ h rfl,ZaQ h rfl,ZaQ h rfl,ZeX h 2,ZeX h 3,ZI h⟩
theorem Ztb(np:Nat)(l:List Nat)(x:Nat):zerosL np (l++[x])=if x<np then zerosL np l++[x]else zerosL np l:=by unfold zerosL;rw[List.filter_append];by_cases h:x<np<;>simp[h]
theorem Ztc(np:Nat)(l:List Nat)(x:Nat):tightL np (l++[x])=if x<np then tightL np l else tightL np l++[x-np]:=by grind[tightL]
structure BasI (base bb:Nat)(pv ev:Value)(z t:List Nat)(zv tv:Value)(wr:World):Prop where
 blk:wr.heap[bb]?=some (.cells (Z3 pv ev zv tv z t).toArray 116 (0,0))
 oz:wr.ownsRow base 3 1 zv z.length ((ZN z).map (Value.int .i64))
 ot:wr.ownsRow base 3 1 tv t.length ((ZN t).map (Value.int .i64))
 ap:∀g,zv.ownBlock=some g->tv.ownBlock≠some g
variable {w:World} {base c:Nat} {v:Value} {xs:List IR}
structure RowsOwn (wr:World)(base:Nat)(v:Value)(xs:List IR):Prop where
 own:wr.ownsRow base 31 1 v xs.length (xs.map fun x=>.slice x.A x.l.length x.c)
 row:∀x∈xs,At 1 Zc wr x.A x.l/\∀g,x.A=some g->base<=g.block/\g.block<wr.heap.size/\some g.block≠v.ownBlock
theorem RowsOwn.nil(wr:World)(base:Nat):RowsOwn wr base (.slice none 0 0) []:=⟨World.ownsRow_nil _ _ _ _,fun x h=>by cases h⟩
theorem RowsOwn.below{w':World} (h:RowsOwn w base v xs)(hb:QB w w'):RowsOwn w' base v xs:=⟨ZK h.own hb,fun x d=>⟨(h.row x d).1.below hb,fun g f=>by have:=(h.row x d).2 g f;exact⟨this.1,ZBJ this.2.1 hb.size,this.2.2⟩⟩⟩
theorem RowsOwn.rowsAt{A:Option Addr} {n:Nat} (h:RowsOwn w base (.slice A n c) xs):ZbR w A xs:=by refine⟨fun k x f=>?_,fun x f=>(h.row x f).1⟩;have i:=h.own;obtain⟨r,s,e⟩:=Z2 i;cases e;obtain⟨g,p,-,m,o⟩:=ZcW i (k:=k) (u:=.slice x.A x.l.length x.c) (by rw[ZAq,f];rfl);refine⟨g,0,p,m,fun j v d=>?_⟩;cases j with|zero=>simp[IR.cs]at d;subst d;simpa using o|succ j=>simp[IR.cs]at d
theorem RowsOwn.push{p I:World} (h:RowsOwn w base v xs)(E:QB w p) {x:IR} {G:Addr} (r:x.A=some G)(m:At 1 Zc p x.A x.l)(J:base<=G.block)(s:G.block<p.heap.size)(z:some G.block≠v.ownBlock)(d:p.grownBy I v.ownBlock) {g cap:Nat} (R:I.ownsRow base 31 1 (.slice (some g) (xs.length+1) cap) (xs.length+1) ((xs.map fun x=>Value.slice x.A x.l.length x.c)++[.slice x.A x.l.length x.c])) (L:v.ownBlock=some g∨g=p.heap.size):RowsOwn I base (.slice (some g) (xs.length+1) cap) (xs++[x]):=by
 have D:∀k,k<p.heap.size->some k≠v.ownBlock->some k≠some g:=fun k V K e=>by
  rcases L with h|h;·exact K (e.trans h.symm)
  ·cases e;omega
 have f:∀(A:Option Addr)(l:List Int),At 1 Zc p A l->(∀g,A=some g->some g.block≠v.ownBlock)->At 1 Zc I A l:=fun A l m Q k y i=>by obtain⟨b,o,r,t,O⟩:=m k y i;refine⟨b,o,r,ZBJ t d.size,fun j u S=>?_⟩;rw[<-O j u S];exact World.cell?_of_block (a:=⟨b,o+k*1+j,none⟩) (d.block b t (Q _ r))
 refine⟨?_,fun y i=>?_⟩;·rw[ZAA,ZAL];exact R
 ·rcases ZAU.1 i with i|i;·obtain⟨U,N⟩:=h.row y i;refine⟨f _ _ (U.below E) fun g d=>(N g d).2.2,fun a H=>?_⟩;obtain⟨q1,q2,q3⟩:=N a H;have q4:=ZBJ q2 E.size;exact⟨q1,ZBJ q4 d.size,D _ q4 q3⟩
  ·rw[ZA9]at i;subst i;refine⟨f _ _ m fun g d=>?_,fun a H=>?_⟩;·rw[r]at d;cases d;exact z
   ·rw[r]at H;cases H;exact⟨J,ZBJ s d.size,D _ s z⟩
theorem ZmF(es:List Ex)(z t:List Nat):∀(ws:List Int)(k:Nat)(w:Int),proofRows es z t k (ws++[w])=proofRows es z t k ws++if k+ws.length∈z then []else [Z7 es t (k+ws.length) w]
 |[],k,w=>by simp only[ZBb,proofRows,ZAE,ZBz]|v::ws,k,w=>by
  have:=ZmF es z t ws (k+1) w;rw[show k+1+ws.length=k+(v::ws).length by simp only[ZAB];omega]at this;simp only[ZzR,proofRows];split;·exact this
  ·rw[this];rfl
def Zei(es:List Ex)(t:List Nat)(c j:Nat):List Int:=1::(t.take j).map fun i=>-((es.getD i default).1.getD c 0)
theorem Ztd{es:List Ex} {t:List Nat} {j i:Nat} (h:t[j]?=some i):Zei es t c (j+1)=Zei es t c j++[-((es.getD i default).1.getD c 0)]:=by unfold Zei;rw[ZBn,h];simp
theorem Zte(es:List Ex)(t:List Nat)(c:Nat)(w:Int):Zei es t c t.length++[w]=Z7 es t c w:=by simp[Zei,Z7]
theorem Tryz.info31:(Tryz.prog.info? 31).map (fun i=>(i.zero,i.size,i.bytes))=some (some (.slice none 0 0),1,24):=Qb
section
variable {P:Program}
def spG(ops:Array Oper)(sp:List Nat):Bool:=sp.all fun j=>match ops[j]? with|some _=>true|none=>false
theorem ZmG{Q:Exit->Act->World->Prop} {a0:Act} {w:World} {l:List Oper} (w0:World)(C:World->Prop)(sp:List Nat)(K:Nat->Gh->Value)(J:(Nat->Bool)->(Nat->Gh)->World->Prop)(z:(Nat->Gh)->Act)(hB:Zav l.toArray=true)(hB':∀g,Zav (mixL sp K g 0 l).toArray=true)(hS:Region.noSelect l.toArray=true)(hN:spG l.toArray sp=true)(hC0:C w)(hCs:∀x R,C x->QB x R->C R)(hCw:∀x,C x->QB w0 x)(h0:∀L,(∀j∈sp,L j=false)->J L (fun _=>Gh.zero) w)(hst:∀L L' g x R,(∀j∈sp,L' j=L j)->J L g x->QB x R->J L' g R)(hq:∀g u,C u->(∀(x:Grew u)(b o:Nat),b<u.heap.size->x.val.cell? ⟨b,o,none⟩=u.cell? ⟨b,o,none⟩)->Hid (∀x:Grew u,QB w0 x.val)->Hid (∀x:Grew u,C x.val)->wpQuiet P (mixL sp K g 0 l).toArray (fun w'=>∃x:Grew u,w'=x.val) (fun a'=>a'=z g) (mixL sp K g 0 l) a0)(hind:∀j∈sp,∀g h,ZaB (ZaF l.toArray j 0 l []) 0 (z g).tmps.toList=ZaB (ZaF l.toArray j 0 l []) 0 (z (upd g j h)).tmps.toList)(hwa:∀g,∀j∈sp,∀o,l.toArray[j]?=some o->Region.wanted o (yielded l.toArray (z g).tmps)=true)(hsp:∀j∈sp,∀o,l[j]?=some o->∀(L:Nat->Bool)(g:Nat->Gh)(x:World),J L g x->C x->QB w0 x->L j=false->(∀e∈o.after,Region.binds .any e=true->L e.on=true)->(∀(i:Nat)(o:Oper),l[i]?=some o->L i=true->∀e∈o.after,Region.binds .any e=true->L e.on=true)->ZbT P (fun v R=>C R/\((o.dst=none/\J (Za7 L j) g R)∨∃h,v=K j h/\J (Za7 L j) (upd g j h) R)) ((execOp (z g).eval o).run P x))(hend:∀g x,J (fun _=>true) g x->C x->QB w0 x->Q .normal (z g) x):wpAny P .any l.toArray Q l.toArray.size (Array.replicate l.toArray.size false) a0 {w with drawn:=w.drawn+1}:=by
 have H:=Zmg hB;have H':=fun g=>Zmg (hB' g);have aA:=Region.noSelect_spec hS;have N:∀g (j:Nat),(mixL sp K g 0 l).toArray[j]?=(l.toArray[j]?).map fun o=>if sp.contains j then yieldsC (K j (g j)) o else o:=fun g j=>by have:=Zee sp K g l 0 j;simpa using this
 have aI:∀(g:Nat->Gh)(j:Nat)(o:Oper),(if sp.contains j=true then yieldsC (K j (g j)) o else o).dst=o.dst:=fun g j o=>by split<;>rfl
 have bH:∀(g:Nat->Gh)(t:Array Value)(k:Nat),yielded (mixL sp K g 0 l).toArray t k=yielded l.toArray t k:=fun g t k=>by unfold yielded;rw[N];cases l.toArray[k]? with
  |none=>rfl|some o=>simp only[ZB8,ZB4,aI]
 have aX:∀(g:Nat->Gh)(o:Oper)(t:Array Value),Region.wanted o (yielded (mixL sp K g 0 l).toArray t)=Region.wanted o (yielded l.toArray t):=fun g o t=>by have:yielded (mixL sp K g 0 l).toArray t=yielded l.toArray t:=funext (bH g t);rw[this]
 have aS:∀(g:Nat->Gh)(j:Nat)(o:Oper) cs b,(mixL sp K g 0 l).toArray[j]?=some o->o.op≠.select cs b:=fun g j o cs b p=>by rw[N]at p;cases r:l.toArray[j]? with
  |none=>rw[r]at p;cases p|some o'=>
   rw[r]at p;simp only[ZB8,ZCa]at p;subst p;split;·simp[yieldsC]
   ·exact aA j o' cs b r
 have O:=fun g u hu=>Zml (H' g) (aS g) (mixL sp K g 0 l) 0 a0 (fun j=>Qd) (hq g u hu (fun x=>x.cell) (fun x=>hCw _ (hCs _ _ hu x.ok)) (fun x=>hCs _ _ hu x.ok));have S:∀g,a0.tmps.size=(z g).tmps.size:=fun g=>(O g w hC0).2.1;have aN:∀g,a0.defers=(z g).defers:=fun g=>(O g w hC0).2.2.1;have bE:∀(g:Nat->Gh)(s:Nat),(∀(j:Nat)(V:Oper),l.toArray[j]?=some V->V.dst≠some s)->a0.tmps[s]?=(z g).tmps[s]?:=fun g s Y=>(O g w hC0).2.2.2 s fun j V _ r X=>by rw[N]at r;cases aP:l.toArray[j]? with|none=>rw[aP]at r;cases r|some o'=>rw[aP]at r;simp only[ZB8,ZCa]at r;exact Y j o' aP (by rw[<-X,<-r];exact(aI g j o').symm)
 have aF:∀(g:Nat->Gh)(i:Nat)(o:Oper),i∉sp->l.toArray[i]?=some o->∀u,C u->∃v,YieldsIn P l.toArray (above u) o v (z g)/\∀s,o.dst=some s->s<(z g).tmps.size->(z g).tmps[s]?=some v:=by
  intro g i o hi p u hu;have hc:sp.contains i=false:=by simpa using hi
  have E:(mixL sp K g 0 l).toArray[i]?=some o:=by rw[N,p];simp[hi]
  obtain⟨v,hy,hv⟩:=(O g u hu).1 i o (ZB2 _) E;refine⟨v,?_,hv⟩;rw[ZsE];unfold YieldsIn at*;rwa [aX]at hy
 have aV:∀(g:Nat->Gh)(j:Nat)(o:Oper)(d:Nat),j∈sp->l.toArray[j]?=some o->o.dst=some d->d<(z g).tmps.size->(z g).tmps[d]?=some (K j (g j)):=by
  intro g j o d r p X y;have hc:sp.contains j=true:=by simpa using r
  have E:(mixL sp K g 0 l).toArray[j]?=some (yieldsC (K j (g j)) o):=by rw[N,p];simp[r]
  obtain⟨v,hy,hv⟩:=(O g w hC0).1 j _ (ZB2 _) E;have:=hv d X y;rw[this];rcases hy with⟨_,h2⟩|⟨h1,_⟩
  ·have h3:=h2 w ⟨⟨w,ZyU _ _⟩,rfl⟩;unfold Oper.quietAt at h3;have h4:(execOp (z g).eval (yieldsC (K j (g j)) o)).run P w=.ok (.value (K j (g j))) w:=by unfold execOp yieldsC;rfl
   rw[h4]at h3;simp only[Oper.quietUpon]at h3;rw[h3.2]
  ·rw[aX g,show Region.wanted (yieldsC (K j (g j)) o) (yielded l.toArray (z g).tmps)=Region.wanted o (yielded l.toArray (z g).tmps)from rfl,hwa g j r o p]at h1;cases h1
 have aM:∀(L:Nat->Bool),(∀(i:Nat)(o:Oper),l.toArray[i]?=some o->L i=true->∀e∈o.after,Region.binds .any e=true->L e.on=true)->∀j,L j=false->∀d∈ZaF l.toArray j 0 l [],∃(i:Nat)(o:Oper),l.toArray[i]?=some o/\o.dst=some d/\L i=false:=by
  intro L Z j r;refine Zmp (G:=fun d=>∃(i:Nat) (o:Oper),l.toArray[i]?=some o/\o.dst=some d/\L i=false) ?_ l 0 [] (fun k=>Qd) (fun d X=>by simp at X);intro i o d p X bD;refine⟨i,o,p,X,?_⟩;rcases bD with rfl|⟨s,Y,i',o',E,bB,hL⟩;·exact r
  ·obtain⟨_,e,he,hb,aE⟩:=H.look i o s i' o' p Y E bB;cases aZ:L i with
   |false=>rfl|true=>have:=Z i o p aZ e he hb;rw[aE,hL]at this;cases this
 have aJ:∀(m:Array Bool)(a:Act)(x:World),m.size=l.toArray.size->ZgZ l.toArray C J z m a x->Region.ready .any l.toArray m=[]->Q .normal a x:=by
  rintro m a x hz ⟨hb,-,g,D,hJ⟩ hr;have hu:=ZsC H hz hr;rw[ZsD D hu];have:(fun j=>m.getD j true)=fun _=>true:=funext fun j=>by
   by_cases r:j<l.toArray.size;·exact hu j r
   ·simp[Zyx (show m.size<=j by omega)]
  rw[this]at hJ;exact hend g x hJ hb (hCw _ hb)
 have aT:∀(m:Array Bool)(a:Act)(x:World)(i:Nat),i∈Region.ready .any l.toArray m->ZgZ l.toArray C J z m a x->wpOp P l.toArray Q i (fun a' R=>ZgZ l.toArray C J z (m.setIfInBounds i true) a' R) a x:=by
  rintro m a x i hi ⟨hb,Z,g,D,hJ⟩;obtain⟨U,o,p,aG⟩:=mem_ready.1 hi;have aQ:=ZsA H D p hi;have aH:∀(i':Nat)(o':Oper),l.toArray[i']?=some o'->(m.setIfInBounds i true).getD i' true=true->∀e∈o'.after,Region.binds .any e=true->(m.setIfInBounds i true).getD e.on true=true:=by
   intro i' o' E hL e he aB;have bI:m.getD e.on true=true:=by
    by_cases aU:i=i';·subst aU;obtain rfl:o=o':=ZB9 (p.symm.trans E);exact ZfQ (aG e he aB)
    ·rw[getD_set_ne true aU]at hL;exact Z i' o' E hL e he aB
   by_cases aE:i=e.on;·rw[aE,Zi5]
   ·rw[getD_set_ne true aE];exact bI
  by_cases I:i∈sp
  ·have X:=hsp i I o (by simpa using p) _ g x hJ hb (hCw _ hb) U (fun e he aB=>ZfQ (aG e he aB)) (fun i' o' E=>Z i' o' (by simpa using E));rw[<-Zmh (aA i o · · p) aQ]at X;unfold wpOp;simp only[p];have bF:Region.wanted o (yielded l.toArray a.tmps)=true:=by rw[Zmi aQ];exact hwa g i I o p
   rw[if_pos bF];refine .inl (ZsH X ?_);rintro v R ⟨bA,hK⟩;refine⟨bA,aH,?_⟩;rw[ZsI];rcases hK with⟨bC,aK⟩|⟨h,rfl,aK⟩;·exact⟨g,Zmo H D p (fun s Y=>by rw[bC]at Y;cases Y),aK⟩
   ·refine⟨upd g i h,⟨by rw[ZgX];exact D.1.trans ((S g).symm.trans (S _)),by rw[Zi3];exact D.2.1.trans ((aN g).symm.trans (aN _)),fun s Y=>?_⟩,aK⟩;by_cases aD:o.dst=some s
    ·rw[aD];by_cases y:s<(z (upd g i h)).tmps.size;·rw[Zi4 (by rw[D.1,<-S g,S (upd g i h)];exact y),aV _ i o s I p aD y];unfold upd;rw[if_pos rfl]
     ·rw[Zmk (by rw[D.1,<-S g,S (upd g i h)];exact y),Zyx Qa]
    ·rw[ZgW aD];have aW:∀(j:Nat)(V:Oper),l.toArray[j]?=some V->V.dst=some s->m.getD j true=true:=fun j V r aC=>by
      have aO:i≠j:=by rintro rfl;obtain rfl:o=V:=ZB9 (p.symm.trans r);exact aD aC
      have:=Y j V r aC;rwa [getD_set_ne true aO]at this
     rw[D.2.2 s aW];refine ZsG (hind i I g h) fun hc=>?_;obtain⟨j,V,r,aC,hL⟩:=aM (fun j=>m.getD j true) Z i U s hc;have:=aW j V r aC;rw[this]at hL;cases hL
  ·obtain⟨v,hy,hv⟩:=aF g i o I p x hb;have bG:=Zmj (aA i o · · p) (fun s Y=>(aQ s Y).symm) hy;refine ZsB p bG (ZyU _ _) fun R aY=>⟨hCs _ _ hb aY,aH,g,Zmo H D p hv,?_⟩;refine hst _ _ g x R (fun j r=>?_) hJ aY;have aO:i≠j:=by rintro rfl;exact I r
   rw[getD_set_ne true aO]
 have aR:∀(f:Nat)(m:Array Bool)(a:Act)(x:World),m.size=l.toArray.size->ZgY l.toArray.size m<=f->ZgZ l.toArray C J z m a x->wpAny P .any l.toArray Q f m a x:=by intro f;induction f with
  |zero=>
   intro m a x hz hf h;have hr:Region.ready .any l.toArray m=[]:=by rw[List.eq_nil_iff_forall_not_mem];intro i hi;obtain⟨U,o,p,_⟩:=mem_ready.1 hi;have:=Zmn (n:=l.toArray.size) (ZbS p) U;omega
   exact⟨hr,aJ m a x hz h hr⟩|succ f ih=>intro m a x hz hf h;refine⟨fun hr=>aJ m a x hz h hr,fun i hi=>?_⟩;obtain⟨U,o,p,_⟩:=mem_ready.1 hi;have hl:=Zmn (n:=l.toArray.size) (ZbS p) U;exact wpOp_mono (fun a' R h'=>ih _ a' R (by simpa using hz) Qa h') (aT m a x i hi h)
 have aL:∀j,j<l.length->(Array.replicate l.toArray.size false).getD j true=false:=fun j r=>by simp[r]
 refine aR _ _ _ _ Qd ?_ ⟨hCs _ _ hC0 (ZyU _ w).drew,fun i o p hL=>?_,fun _=>Gh.zero,⟨S _,aN _,fun s Y=>?_⟩,?_⟩;·unfold ZgY;exact ZBG (ZAC _ _) Qd
 ·have y:=ZbS p;simp only[ZBl]at y;rw[aL i y]at hL;cases hL
 ·refine bE _ s fun j V r X=>?_;have:=Y j V r X;have y:=ZbS r;simp only[ZBl]at y;rw[aL j y]at this;cases this
 ·refine hst _ _ _ w _ (fun _ _=>rfl) (h0 _ fun j r=>?_) (ZyU _ w).drew;have:∃o,l.toArray[j]?=some o:=by unfold spG at hN;have:=ZzJ.1 hN j r;cases p:l.toArray[j]? with
   |none=>rw[p]at this;cases this|some o=>exact⟨o,rfl⟩
  obtain⟨o,p⟩:=this;have y:=ZbS p;simp only[ZBl]at y;exact aL j y
theorem ZcF{Q:Exit->Act->World->Prop} {a0:Act} {w:World} {l:List Oper} (w0:World)(C:World->Prop)(sp:List Nat)(p:Nat->Gh->Value)(J:(Nat->Bool)->(Nat->Gh)->World->Prop)(f:(Nat->Gh)->Act)(hB:Zav l.toArray=true)(hB':∀g,Zav (mixL sp p g 0 l).toArray=true)(hS:Region.noSelect l.toArray=true)(hN:spB l.toArray sp=true)(hC0:C w)(hCs:∀x d,C x->QB x d->C d)(hCw:∀x,C x->QB w0 x)(h0:∀L,(∀j∈sp,L j=false)->J L (fun _=>Gh.zero) w)(hst:∀L t g x d,(∀j∈sp,t j=L j)->J L g x->QB x d->J t g d)(hq:∀g u,C u->(∀(x:Grew u)(b o:Nat),b<u.heap.size->x.val.cell? ⟨b,o,none⟩=u.cell? ⟨b,o,none⟩)->Hid (∀x:Grew u,QB w0 x.val)->Hid (∀x:Grew u,C x.val)->wpQuiet P (mixL sp p g 0 l).toArray (fun z=>∃x:Grew u,z=x.val) (fun y=>y=f g) (mixL sp p g 0 l) a0)(hind:∀j∈sp,∀g h,ZaB (ZaF l.toArray j 0 l []) 0 (f g).tmps.toList=ZaB (ZaF l.toArray j 0 l []) 0 (f (upd g j h)).tmps.toList)(hsp:∀j∈sp,∀o,l[j]?=some o->∀(L:Nat->Bool)(g:Nat->Gh)(x:World),J L g x->C x->QB w0 x->L j=false->(∀e∈o.after,Region.binds .any e=true->L e.on=true)->(∀(i:Nat)(o:Oper),l[i]?=some o->L i=true->∀e∈o.after,Region.binds .any e=true->L e.on=true)->ZbT P (fun v d=>C d/\((o.dst=none/\J (Za7 L j) g d)∨∃h,v=p j h/\J (Za7 L j) (upd g j h) d)) ((execOp (f g).eval o).run P x))(hend:∀g x,J (fun _=>true) g x->C x->QB w0 x->Q .normal (f g) x):wpAny P .any l.toArray Q l.toArray.size (Array.replicate l.toArray.size false) a0 {w with drawn:=w.drawn+1}:=by
 have r:∀j∈sp,∀o,l.toArray[j]?=some o->o.guard=none:=fun j m o s=>by unfold spB at hN;have:=ZzJ.1 hN j m;rw[s]at this;simpa using this
 refine ZmG w0 C sp p J f hB hB' hS (ZzJ.2 fun j m=>?_) hC0 hCs hCw h0 hst hq hind (fun g j m o s=>by simp[Region.wanted,r j m o s]) hsp hend;have:=ZzJ.1 hN j m;cases h:l.toArray[j]? with|none=>rw[h]at this;cases this|some o=>rfl
theorem ZmH{s:Nat} {Q:Exit->Act->World->Prop} {a0:Act} {w:World} {l:List Oper} (w0:World)(C:World->Prop)(sp:List Nat)(m:Nat->Gh->Value)(J:(Nat->Bool)->(Nat->Gh)->World->Prop)(f:(Nat->Gh)->Act)(hm:P.follows .mixedOrders=true)(hB:Zav l.toArray=true)(hB':∀g,Zav (mixL sp m g 0 l).toArray=true)(hS:Region.noSelect l.toArray=true)(hN:spB l.toArray sp=true)(hC0:C w)(hCs:∀x d,C x->QB x d->C d)(hCw:∀x,C x->QB w0 x)(h0:∀L,(∀j∈sp,L j=false)->J L (fun _=>Gh.zero) w)(hst:∀L p g x d,(∀j∈sp,p j=L j)->J L g x->QB x d->J p g d)(hq:∀g u,C u->(∀(x:Grew u)(b o:Nat),b<u.heap.size->x.val.cell? ⟨b,o,none⟩=u.cell? ⟨b,o,none⟩)->Hid (∀x:Grew u,QB w0 x.val)->Hid (∀x:Grew u,C x.val)->wpQuiet P (mixL sp m g 0 l).toArray (fun t=>∃x:Grew u,t=x.val) (fun r=>r=f g) (mixL sp m g 0 l) a0)(hind:∀j∈sp,∀g h,ZaB (ZaF l.toArray j 0 l []) 0 (f g).tmps.toList=ZaB (ZaF l.toArray j 0 l []) 0 (f (upd g j h)).tmps.toList)(hsp:∀j∈sp,∀o,l[j]?=some o->∀(L:Nat->Bool)(g:Nat->Gh)(x:World),J L g x->C x->QB w0 x->L j=false->(∀e∈o.after,Region.binds .any e=true->L e.on=true)->(∀(i:Nat)(o:Oper),l[i]?=some o->L i=true->∀e∈o.after,Region.binds .any e=true->L e.on=true)->ZbT P (fun v d=>C d/\((o.dst=none/\J (Za7 L j) g d)∨∃h,v=m j h/\J (Za7 L j) (upd g j h) d)) ((execOp (f g).eval o).run P x))(hend:∀g x,J (fun _=>true) g x->C x->QB w0 x->Q .normal (f g) x):(Code.region s l.toArray true).wp P Q a0 w:=wp_region_any hm (ZcF w0 C sp m J f hB hB' hS hN hC0 hCs hCw h0 hst hq hind hsp hend)
end
section
variable {P:Program}
theorem ZmI{f:Operand->Value} {o:Oper} {t:TypeId} {p:Operand} {b off:Nat} {n:Int} {x:World} (i:o.op=.load t p)(d:Sem.run P (isAgg t) x=.ok false x)(hp:f p=.pointer (some ⟨b,off,none⟩))(h:x.cell? ⟨b,off,none⟩=some (.int .i64 n)):(execOp f o).run P x=.ok (.value (.int .i64 n)) x:=by unfold execOp;rw[i];simp[go_sem,hp,h,d]
theorem Zg6{f:Operand->Value} {o:Oper} {t:TypeId} {p q:Operand} {b off:Nat} {n:Int} {u:Value} {x:World} (i:o.op=.store t p q)(d:Sem.run P (sizeOf t) x=.ok 1 x)(hp:f p=.pointer (some ⟨b,off,none⟩))(hq:f q=.int .i64 n)(h:x.cell? ⟨b,off,none⟩=some u)(hf:x.frozen? ⟨b,off,none⟩=false):(execOp f o).run P x=.ok .skip (x.setCell ⟨b,off,none⟩ (.int .i64 n)):=by unfold execOp;rw[i];simp[go_sem,hp,hq,h,hf,d]
def mkMAS(c n:Nat):Nat->Gh->Value:=fun j h=>if j=c then .slice (some h.b) n n else .pointer (some h.b)
theorem Ztf{id:Nat} {Q:Exit->Act->World->Prop} {a0:Act} {w:World} {l:List Oper} (w0:World)(c m k n:Nat)(Y Z:Obj)(X:Gh->Obj)(s:(Nat->Gh)->Act)(hm:P.follows .mixedOrders=true)(hB:Zav l.toArray=true)(hB':∀g,Zav (mixL [c,m,k] (mkMAS c n) g 0 l).toArray=true)(hS:Region.noSelect l.toArray=true)(hN:spB l.toArray [c,m,k]=true)(hne:c≠m/\c≠k/\m≠k)(hkd:(match l[k]? with|some o=>o.dst.isNone|none=>false)=true)(hcl:∀L:Nat->Bool,(∀(i:Nat)(o:Oper),l[i]?=some o->L i=true->∀e∈o.after,Region.binds .any e=true->L e.on=true)->∀o,l[k]?=some o->(∀e∈o.after,Region.binds .any e=true->L e.on=true)->L c=true/\L m=true)(hw:QB w0 w)(hal1:∀o,l[c]?=some o->∀(g:Nat->Gh) (x:World),QB w x->(execOp (s g).eval o).run P x=.ok (.value (.slice (some x.heap.size) n n)) (x.alloc Y))(hal2:∀o,l[m]?=some o->∀(g:Nat->Gh) (x:World),(execOp (s g).eval o).run P x=.ok (.value (.pointer (some x.heap.size))) (x.alloc Z))(hq:∀g u,QB w u->(∀(x:Grew u)(b o:Nat),b<u.heap.size->x.val.cell? ⟨b,o,none⟩=u.cell? ⟨b,o,none⟩)->Hid (∀x:Grew u,QB w0 x.val)->Hid (∀x:Grew u,QB w x.val)->wpQuiet P (mixL [c,m,k] (mkMAS c n) g 0 l).toArray (fun w'=>∃x:Grew u,w'=x.val) (fun a'=>a'=s g) (mixL [c,m,k] (mkMAS c n) g 0 l) a0)(hind:∀j∈[c,m,k],∀g h,ZaB (ZaF l.toArray j 0 l []) 0 (s g).tmps.toList=ZaB (ZaF l.toArray j 0 l []) 0 (s (upd g j h)).tmps.toList)(hs:∀o,l[k]?=some o->∀(g:Nat->Gh)(x:World),QB w x->x.heap[(g m).b]?=some Z->∃D,(execOp (s g).eval o).run P x=.ok .skip D/\OnlyB (g m).b x D/\D.heap[(g m).b]?=some (X (g c)))(hend:∀(g:Nat->Gh)(x:World),w.heap.size<=(g c).b->w.heap.size<=(g m).b->(g c).b≠(g m).b->QB w x->QB w0 x->x.heap[(g c).b]?=some Y->x.heap[(g m).b]?=some (X (g c))->Q .normal (s g) x):(Code.region id l.toArray true).wp P Q a0 w:=by
 obtain⟨r,U,V⟩:=hne;refine ZmH w0 (fun x=>QB w x) [c,m,k] (mkMAS c n) (fun L g x=>(L c=false->L k=false)/\(L m=false->L k=false)/\(L c=true->w.heap.size<=(g c).b/\x.heap[(g c).b]?=some Y)/\(L m=true->w.heap.size<=(g m).b/\x.heap[(g m).b]?=some (if L k=true then X (g c)else Z))/\(L c=true->L m=true->(g c).b≠(g m).b)) s hm hB hB' hS hN (ZyU _ _) (fun x D h O=>h.trans (O.mono h.size)) (fun x h=>via hw h) ?_ ?_ hq hind ?_ ?_
 ·intro L h;have a1:=h c Qd;have a2:=h m Qd;have a3:=h k Qd;refine⟨fun _=>a3,fun _=>a3,fun h=>?_,fun h=>?_,fun h=>?_⟩;·rw[a1]at h;cases h
  ·rw[a2]at h;cases h
  ·rw[a1]at h;cases h
 ·rintro L L' g x D h ⟨K,N,f,t,y⟩ O;rw[h c Qd,h m Qd,h k Qd];exact⟨K,N,fun H=>⟨(f H).1,Zx O (f H).2⟩,fun H=>⟨(t H).1,Zx O (t H).2⟩,y⟩
 ·intro j hj o I L g x ⟨K,N,f,t,y⟩ d E S p G;simp only[ZAX,ZBe,or_false]at hj;rcases hj with rfl|rfl|rfl
  ·have z:=K S;refine Zao (hal1 o I g x d) ⟨ZlO d _,.inr ⟨{Gh.zero with b:=x.heap.size},by unfold mkMAS;rw[if_pos rfl],?_,?_,?_,?_,?_⟩⟩;·intro h;rw[ZaV]at h;cases h
   ·intro h;rw[ZJ (Ne.symm U)];exact z
   ·intro _;rw[Zaa];exact⟨d.size,ZA _ _ rfl⟩
   ·intro h;rw[ZJ (Ne.symm r)]at h;rw[ZJ (Ne.symm U),upd_ne (Ne.symm r),z];have:=t h;rw[z]at this;exact⟨this.1,Zz this.2 _⟩
   ·intro _ h;rw[ZJ (Ne.symm r)]at h;rw[Zaa,upd_ne (Ne.symm r)];have:=ZI (t h).2;dsimp only;omega
  ·have z:=N S;refine Zao (hal2 o I g x) ⟨ZlO d _,.inr ⟨{Gh.zero with b:=x.heap.size},by unfold mkMAS;rw[if_neg (Ne.symm r)],?_,?_,?_,?_,?_⟩⟩;·intro h;rw[ZJ (Ne.symm V)];exact z
   ·intro h;rw[ZaV]at h;cases h
   ·intro h;rw[ZJ r]at h;rw[upd_ne r];exact⟨(f h).1,Zz (f h).2 _⟩
   ·intro _;rw[Zaa,ZJ (Ne.symm V),z];exact⟨d.size,ZA _ _ rfl⟩
   ·intro h _;rw[ZJ r]at h;rw[Zaa,upd_ne r];have:=ZI (f h).2;dsimp only;omega
  ·obtain⟨J,R⟩:=hcl L G o I p;obtain⟨p1,p2⟩:=t R;rw[if_neg (by rw[S];decide)]at p2;obtain⟨D,r1,r2,r3⟩:=hs o I g x d p2;rw[I]at hkd;refine ZcB r1 ⟨d.trans (r2.below _ p1),.inl ⟨by simpa using hkd,?_,?_,?_,?_,?_⟩⟩;·intro h;rw[ZJ U,J]at h;cases h
   ·intro h;rw[ZJ V,R]at h;cases h
   ·intro _;exact⟨(f J).1,r2.keep (y J R) (f J).2⟩
   ·intro _;rw[ZaV,if_pos rfl];exact⟨p1,r3⟩
   ·intro _ _;exact y J R
 ·rintro g x ⟨K,N,f,t,y⟩ d E;have:=t rfl;rw[if_pos rfl]at this;exact hend g x (f rfl).1 this.1 (y rfl rfl) d E (f rfl).2 this.2
theorem Ztg{id:Nat} {Q:Exit->Act->World->Prop} {a0:Act} {w:World} {l:List Oper} (w0:World)(p q k r:Nat)(b:Nat)(O R:Value)(zz:Bool->Bool->Obj)(s:(Nat->Gh)->Act)(hm:P.follows .mixedOrders=true)(hB:Zav l.toArray=true)(hB':∀g,Zav (mixL [p,q,k,r] (fun j _=>if j=p then O else R) g 0 l).toArray=true)(hS:Region.noSelect l.toArray=true)(hN:spB l.toArray [p,q,k,r]=true)(hne:p≠q/\p≠k/\p≠r/\q≠k/\q≠r/\k≠r)(hkd:(match l[k]?,l[r]? with|some o,some o'=>o.dst.isNone&&o'.dst.isNone|_,_=>false)=true)(hcl:∀L:Nat->Bool,(∀(i:Nat)(o:Oper),l[i]?=some o->L i=true->∀e∈o.after,Region.binds .any e=true->L e.on=true)->((L k=true->L p=true/\L q=true)/\(L r=true->L p=true/\L q=true))/\(∀o,l[k]?=some o->(∀e∈o.after,Region.binds .any e=true->L e.on=true)->L p=true/\L q=true)/\(∀o,l[r]?=some o->(∀e∈o.after,Region.binds .any e=true->L e.on=true)->L p=true/\L q=true))(hw:QB w0 w)(hb:w0.heap.size<=b)(hb0:w.heap[b]?=some (zz false false))(hp:∀o,l[p]?=some o->∀(g:Nat->Gh)(x:World),x.heap[b]?=some (zz false false)->(execOp (s g).eval o).run P x=.ok (.value O) x)(hqq:∀o,l[q]?=some o->∀(g:Nat->Gh)(x:World),x.heap[b]?=some (zz false false)->(execOp (s g).eval o).run P x=.ok (.value R) x)(hq:∀g u,w.grownBy u (some b)->(∀(x:Grew u)(b o:Nat),b<u.heap.size->x.val.cell? ⟨b,o,none⟩=u.cell? ⟨b,o,none⟩)->Hid (∀x:Grew u,QB w0 x.val)->Hid (∀x:Grew u,w.grownBy x.val (some b))->wpQuiet P (mixL [p,q,k,r] (fun j _=>if j=p then O else R) g 0 l).toArray (fun w'=>∃x:Grew u,w'=x.val) (fun a'=>a'=s g) (mixL [p,q,k,r] (fun j _=>if j=p then O else R) g 0 l) a0)(hind:∀j∈[p,q,k,r],∀g h,ZaB (ZaF l.toArray j 0 l []) 0 (s g).tmps.toList=ZaB (ZaF l.toArray j 0 l []) 0 (s (upd g j h)).tmps.toList)(hs1:∀o,l[k]?=some o->∀(f:Bool)(g:Nat->Gh)(x:World),x.heap[b]?=some (zz false f)->∃d,(execOp (s g).eval o).run P x=.ok .skip d/\OnlyB b x d/\d.heap[b]?=some (zz true f))(hs2:∀o,l[r]?=some o->∀(f:Bool)(g:Nat->Gh)(x:World),x.heap[b]?=some (zz f false)->∃d,(execOp (s g).eval o).run P x=.ok .skip d/\OnlyB b x d/\d.heap[b]?=some (zz f true))(hend:∀(g:Nat->Gh)(x:World),w.grownBy x (some b)->QB w0 x->x.heap[b]?=some (zz true true)->Q .normal (s g) x):(Code.region id l.toArray true).wp P Q a0 w:=by
 obtain⟨n1,n2,n3,n4,n5,n6⟩:=hne;have I:∀{x d:World},OnlyB b x d->x.grownBy d (some b):=fun {x d} h=>⟨(h.below 0 (ZB2 _)).os,(h.below 0 (ZB2 _)).tape,(h.below 0 (ZB2 _)).output,(h.below 0 (ZB2 _)).size,fun i _ hi=>h.other i fun e=>hi (by rw[e])⟩;have t:∀{x d y:World},x.grownBy d (some b)->d.grownBy y (some b)->x.grownBy y (some b):=fun h k=>World.grownBy.trans h k;refine ZmH w0 (fun x=>w.grownBy x (some b)) [p,q,k,r] _ (fun L g x=>x.heap[b]?=some (zz (L k) (L r))) s hm hB hB' hS hN ⟨rfl,rfl,rfl,ZBF _,fun _ _ _=>rfl⟩ (fun x d h hb=>t h ⟨hb.os,hb.tape,hb.output,hb.size,fun k z _=>hb.block k z⟩) (fun x h=>ZsJ hw h fun i e=>by cases e;exact hb) ?_ ?_ hq hind ?_ ?_;·intro L h;rw[h k Qd,h r Qd];exact hb0
 ·rintro L L' g x d h m S;rw[h k Qd,h r Qd];exact Zx S m
 ·intro j hj o G L g x m D H E N J;obtain⟨⟨Y,Z⟩,c3,c4⟩:=hcl L J;simp only[ZAX,ZBe,or_false]at hj;rcases hj with rfl|rfl|rfl|rfl
  ·have z:L k=false:=by cases h:L k;rfl;have:=(Y h).1;rw[E]at this;cases this
   have K:L r=false:=by cases h:L r;rfl;have:=(Z h).1;rw[E]at this;cases this
   rw[z,K]at m;refine Zao (hp o G g x m) ⟨D,.inr ⟨Gh.zero,by rw[if_pos rfl],?_⟩⟩;rw[ZJ (Ne.symm n2),ZJ (Ne.symm n3),z,K];exact m
  ·have z:L k=false:=by cases h:L k;rfl;have:=(Y h).2;rw[E]at this;cases this
   have K:L r=false:=by cases h:L r;rfl;have:=(Z h).2;rw[E]at this;cases this
   rw[z,K]at m;refine Zao (hqq o G g x m) ⟨D,.inr ⟨Gh.zero,by rw[if_neg (Ne.symm n1)],?_⟩⟩;rw[ZJ (Ne.symm n4),ZJ (Ne.symm n5),z,K];exact m
  ·rw[E]at m;obtain⟨d,U,V,X⟩:=hs1 o G _ g x m;refine ZcB U ⟨t D (I V),.inl ⟨?_,?_⟩⟩
   ·rw[G]at hkd;split at hkd;·rename_i e1 e2;cases e1;simp only[ZyW]at hkd;simpa using hkd.1
    ·cases hkd
   ·rw[ZaV,ZJ (Ne.symm n6)];exact X
  ·rw[E]at m;obtain⟨d,U,V,X⟩:=hs2 o G _ g x m;refine ZcB U ⟨t D (I V),.inl ⟨?_,?_⟩⟩
   ·rw[G]at hkd;split at hkd;·rename_i e1 e2;cases e2;simp only[ZyW]at hkd;simpa using hkd.2
    ·cases hkd
   ·rw[ZaV,ZJ n6];exact X
 ·intro g x m D H;exact hend g x D H m
end
section
variable {P:Program}
def Z0(w0 w:World)(v:Value)(x:World):Prop:=QB w0 x/\w.heap.size<=x.heap.size/\∀k,k<w.heap.size->some k≠v.ownBlock->x.heap[k]?=w.heap[k]?
theorem Z0.refl{w0 w:World} {v:Value} (h:QB w0 w):Z0 w0 w v w:=⟨h,ZBF _,fun _ _ _=>rfl⟩
theorem Z0.below{w0 w x f:World} {v:Value} (h:Z0 w0 w v x)(hb:QB x f):Z0 w0 w v f:=⟨via h.1 hb,ZBG h.2.1 hb.size,fun k d i=>(hb.block k (ZBJ d h.2.1)).trans (h.2.2 k d i)⟩
theorem Z0.grown{w0 w x p:World} {v:Value} {row:Option Nat} (h:Z0 w0 w v x)(hw:w0.heap.size<=w.heap.size)(hv0:∀r,v.ownBlock=some r->w0.heap.size<=r)(f:x.grownBy p row)(m:∀r,row=some r->w.heap.size<=r∨v.ownBlock=some r):Z0 w0 w v p:=⟨ZT h.1 f fun b e=>by
  rcases m b e with d|d;·omega
  ·exact hv0 b d,ZBG h.2.1 f.size,fun k i o=>(f.block k (ZBJ i h.2.1) fun e=>by
   rcases m k e.symm with d|d;·omega
   ·exact o d.symm).trans (h.2.2 k i o)⟩
def mkR6(m0 c m1 q1 m2 n nq:Nat):Nat->Gh->Value:=fun j g=>if j=m0 then .slice (some g.b) 0 0 else if j=c then .slice g.a1 n g.c1 else if j=m1 then .slice (some g.b) 1 1 else if j=m2 then .slice (some g.b) 1 1 else if j=q1 then .slice g.a1 (n+1) g.c1 else .slice g.a1 (nq+1) g.c1
theorem Zth{Q:Exit->Act->World->Prop} {a0:Act} {w:World} {l:List Oper} (w0:World)(m0 c m1 q1 m2 q2:Nat)(n nq:Nat)(e1:TypeId)(xs ys:List Value)(z0 z1:Obj)(z2:Gh->Obj)(row:Gh->List Value)(U:Nat)(Y:TypeId)(v:Value)(X:List Value)(D:(Nat->Gh)->Act)(hB:Zav l.toArray=true)(hB':∀g,Zav (mixL [m0,c,m1,q1,m2,q2] (mkR6 m0 c m1 q1 m2 n nq) g 0 l).toArray=true)(hS:Region.noSelect l.toArray=true)(hN:spB l.toArray [m0,c,m1,q1,m2,q2]=true)(hne:m0≠c/\m0≠m1/\m0≠q1/\m0≠m2/\m0≠q2/\c≠m1/\c≠q1/\c≠m2/\c≠q2/\m1≠q1/\m1≠m2/\m1≠q2/\q1≠m2/\q1≠q2/\m2≠q2)(hd1:∀L:Nat->Bool,(∀(i:Nat)(o:Oper),l[i]?=some o->L i=true->∀e∈o.after,Region.binds .any e=true->L e.on=true)->(∀o,l[q1]?=some o->(∀e∈o.after,Region.binds .any e=true->L e.on=true)->L c=true/\L m1=true)/\(∀o,l[m2]?=some o->(∀e∈o.after,Region.binds .any e=true->L e.on=true)->L q1=true)/\(∀o,l[q2]?=some o->(∀e∈o.after,Region.binds .any e=true->L e.on=true)->L m2=true))(hw:QB w0 w)(hv0:∀r,v.ownBlock=some r->w0.heap.size<=r)(hown:w.ownsRow U Y 1 v nq X)(hal0:∀o,l[m0]?=some o->∀(g:Nat->Gh) (x:World),(execOp (D g).eval o).run P x=.ok (.value (.slice (some x.heap.size) 0 0)) (x.alloc z0))(hcl:∀o,l[c]?=some o->∀(g:Nat->Gh)(x:World),Z0 w0 w v x->∃z s,(execOp (D g).eval o).run P x=.ok (.value z) s/\s.ownsRow w.heap.size e1 1 z n xs/\QB x s)(hal1:∀o,l[m1]?=some o->∀(g:Nat->Gh) (x:World),(execOp (D g).eval o).run P x=.ok (.value (.slice (some x.heap.size) 1 1)) (x.alloc z1))(hap1:∀o,l[q1]?=some o->∀(g:Nat->Gh) (x:World),Z0 w0 w v x->x.ownsRow w.heap.size e1 1 (.slice (g c).a1 n (g c).c1) n xs->x.heap[(g m1).b]?=some z1->∃z s,(execOp (D g).eval o).run P x=.ok (.value z) s/\s.ownsRow w.heap.size e1 1 z (n+1) (xs++ys)/\x.grownBy s (Value.slice (g c).a1 n (g c).c1).ownBlock)(hal2:∀o,l[m2]?=some o->∀(g:Nat->Gh) (x:World),(execOp (D g).eval o).run P x=.ok (.value (.slice (some x.heap.size) 1 1)) (x.alloc (z2 (g q1))))(hap2:∀o,l[q2]?=some o->∀(g:Nat->Gh) (x:World),Z0 w0 w v x->x.ownsRow U Y 1 v nq X->x.heap[(g m2).b]?=some (z2 (g q1))->∃z s,(execOp (D g).eval o).run P x=.ok (.value z) s/\s.ownsRow U Y 1 z (nq+1) (X++row (g q1))/\x.grownBy s v.ownBlock/\(z.ownBlock=v.ownBlock∨z.ownBlock=some x.heap.size))(hq:∀g u,Z0 w0 w v u->(∀(x:Grew u)(b o:Nat),b<u.heap.size->x.val.cell? ⟨b,o,none⟩=u.cell? ⟨b,o,none⟩)->Hid (∀x:Grew u,QB w0 x.val)->Hid (∀x:Grew u,Z0 w0 w v x.val)->wpQuiet P (mixL [m0,c,m1,q1,m2,q2] (mkR6 m0 c m1 q1 m2 n nq) g 0 l).toArray (fun w'=>∃x:Grew u,w'=x.val) (fun a'=>a'=D g) (mixL [m0,c,m1,q1,m2,q2] (mkR6 m0 c m1 q1 m2 n nq) g 0 l) a0)(hind:∀j∈[m0,c,m1,q1,m2,q2],∀g h,ZaB (ZaF l.toArray j 0 l []) 0 (D g).tmps.toList=ZaB (ZaF l.toArray j 0 l []) 0 (D (upd g j h)).tmps.toList)(hend:∀(g:Nat->Gh) (x:World),Z0 w0 w v x->x.ownsRow w.heap.size e1 1 (.slice (g q1).a1 (n+1) (g q1).c1) (n+1) (xs++ys)->x.ownsRow U Y 1 (.slice (g q2).a1 (nq+1) (g q2).c1) (nq+1) (X++row (g q1))->((Value.slice (g q2).a1 (nq+1) (g q2).c1).ownBlock=v.ownBlock∨∃r,(Value.slice (g q2).a1 (nq+1) (g q2).c1).ownBlock=some r/\w.heap.size<=r/\some r≠(Value.slice (g q1).a1 (n+1) (g q1).c1).ownBlock)->Q .normal (D g) x):wpAny P .any l.toArray Q l.toArray.size (Array.replicate l.toArray.size false) a0 {w with drawn:=w.drawn+1}:=by
 obtain⟨o1,o2,o3,o4,o5,n1,n2,n3,n4,n5,n6,n7,n8,n9,G⟩:=hne;have R:∀r,v.ownBlock=some r->r<w.heap.size:=fun r e=>(hown.lt r e).2;refine ZcF w0 (Z0 w0 w v) [m0,c,m1,q1,m2,q2] (mkR6 m0 c m1 q1 m2 n nq) (fun L g x=>((L q1=true->L c=true/\L m1=true)/\(L m2=true->L q1=true)/\(L q2=true->L m2=true))/\(L q1=false->L c=true->x.ownsRow w.heap.size e1 1 (.slice (g c).a1 n (g c).c1) n xs)/\(L q1=false->L m1=true->w.heap.size<=(g m1).b/\x.heap[(g m1).b]?=some z1)/\(L q1=true->x.ownsRow w.heap.size e1 1 (.slice (g q1).a1 (n+1) (g q1).c1) (n+1) (xs++ys))/\(L q2=false->L m2=true->w.heap.size<=(g m2).b/\x.heap[(g m2).b]?=some (z2 (g q1)))/\(L q2=false->x.ownsRow U Y 1 v nq X)/\(L q2=true->x.ownsRow U Y 1 (.slice (g q2).a1 (nq+1) (g q2).c1) (nq+1) (X++row (g q1))/\((Value.slice (g q2).a1 (nq+1) (g q2).c1).ownBlock=v.ownBlock∨∃r,(Value.slice (g q2).a1 (nq+1) (g q2).c1).ownBlock=some r/\w.heap.size<=r/\some r≠(Value.slice (g q1).a1 (n+1) (g q1).c1).ownBlock))) D hB hB' hS hN (Z0.refl hw) (fun x s h y=>h.below y) (fun x h=>h.1) ?_ ?_ hq hind ?_ ?_;·intro L h;have a1:=h c Qd;have a2:=h m1 Qd;have a3:=h q1 Qd;have a4:=h m2 Qd;have a5:=h q2 Qd;rw[a1,a2,a3,a4,a5];exact⟨⟨(fun h=>by cases h),(fun h=>by cases h),(fun h=>by cases h)⟩,(fun _ h=>by cases h),(fun _ h=>by cases h),(fun h=>by cases h),(fun _ h=>by cases h),fun _=>hown,(fun h=>by cases h)⟩
 ·rintro L L' g x s h ⟨j0,j1,j2,j3,j4,K,N⟩ y;have a1:=h c Qd;have a2:=h m1 Qd;have a3:=h q1 Qd;have a4:=h m2 Qd;have a5:=h q2 Qd;rw[a1,a2,a3,a4,a5];exact⟨j0,fun h m=>ZK (j1 h m) y,fun h m=>⟨(j2 h m).1,Zx y (j2 h m).2⟩,fun h=>ZK (j3 h) y,fun h m=>⟨(j4 h m).1,Zx y (j4 h m).2⟩,fun h=>ZK (K h) y,fun h=>⟨ZK (N h).1 y,(N h).2⟩⟩
 ·intro j hj o I L g x ⟨⟨k1,k2,k3⟩,j1,j2,j3,j4,K,N⟩ t aA J f Z;obtain⟨d1,d2,d3⟩:=hd1 L Z;have S:L q1=false->L m2=false/\L q2=false:=fun h=>by
   have a:L m2=false:=by cases H:L m2 with|false=>rfl|true=>rw[k2 H]at h;cases h
   refine⟨a,?_⟩;cases H:L q2 with|false=>rfl|true=>rw[k3 H]at a;cases a
  have aC:L m2=false->L q2=false:=fun h=>by cases H:L q2 with
   |false=>rfl|true=>rw[k3 H]at h;cases h
  have nc:L c=false->L q1=false:=fun h=>by cases H:L q1 with|false=>rfl|true=>rw[(k1 H).1]at h;cases h
  have aB:L m1=false->L q1=false:=fun h=>by cases H:L q1 with
   |false=>rfl|true=>rw[(k1 H).2]at h;cases h
  simp only[ZAX,ZBe,or_false]at hj;rcases hj with rfl|rfl|rfl|rfl|rfl|rfl;·refine Zao (hal0 o I g x) ⟨t.below (ZC _ _),.inr ⟨{Gh.zero with b:=x.heap.size},by simp[mkR6],?_⟩⟩;rw[ZJ (Ne.symm o1),ZJ (Ne.symm o2),ZJ (Ne.symm o3),ZJ (Ne.symm o4),ZJ (Ne.symm o5),upd_ne (Ne.symm o1),upd_ne (Ne.symm o2),upd_ne (Ne.symm o3),upd_ne (Ne.symm o4),upd_ne (Ne.symm o5)];have y:=ZC x z0;exact⟨⟨k1,k2,k3⟩,fun h m=>ZK (j1 h m) y,fun h m=>⟨(j2 h m).1,Zx y (j2 h m).2⟩,fun h=>ZK (j3 h) y,fun h m=>⟨(j4 h m).1,Zx y (j4 h m).2⟩,fun h=>ZK (K h) y,fun h=>⟨ZK (N h).1 y,(N h).2⟩⟩
  ·have p:=nc J;obtain⟨l2,E⟩:=S p;obtain⟨z,s,r1,p1,p2⟩:=hcl o I g x t;obtain⟨A,cp,rfl⟩:=Z2 p1;refine Zao r1 ⟨t.below p2,.inr ⟨{Gh.zero with a1:=A,c1:=cp},by simp[mkR6,Ne.symm o1],?_⟩⟩;rw[ZaV,ZJ (Ne.symm n1),ZJ (Ne.symm n2),ZJ (Ne.symm n3),ZJ (Ne.symm n4),Zaa,upd_ne (Ne.symm n1),upd_ne (Ne.symm n2),upd_ne (Ne.symm n3),upd_ne (Ne.symm n4),p,l2,E];exact⟨⟨(fun h=>by cases h),(fun h=>by cases h),(fun h=>by cases h)⟩,fun _ _=>p1,fun h m=>⟨(j2 p m).1,Zx p2 (j2 p m).2⟩,(fun h=>by cases h),(fun _ h=>by cases h),fun _=>ZK (K E) p2,(fun h=>by cases h)⟩
  ·have p:=aB J;obtain⟨l2,E⟩:=S p;refine Zao (hal1 o I g x) ⟨t.below (ZC _ _),.inr ⟨{Gh.zero with b:=x.heap.size},by simp[mkR6,Ne.symm n1,Ne.symm o2],?_⟩⟩;rw[ZaV,ZJ n1,ZJ (Ne.symm n5),ZJ (Ne.symm n6),ZJ (Ne.symm n7),Zaa,upd_ne n1,upd_ne (Ne.symm n5),upd_ne (Ne.symm n6),upd_ne (Ne.symm n7),p,l2,E];exact⟨⟨(fun h=>by cases h),(fun h=>by cases h),(fun h=>by cases h)⟩,fun _ h=>ZK (j1 p h) (ZC _ _),fun _ _=>⟨t.2.1,ZA _ _ rfl⟩,(fun h=>by cases h),(fun _ h=>by cases h),fun _=>ZK (K E) (ZC _ _),(fun h=>by cases h)⟩
  ·obtain⟨lc,V⟩:=d1 o I f;obtain⟨l2,E⟩:=S J;have d:=j1 J lc;obtain⟨z,s,r1,r2,r3⟩:=hap1 o I g x t d (j2 J V).2;obtain⟨gB,O,rfl⟩:=Z2 r2;have hr:∀r,(Value.slice (g c).a1 n (g c).c1).ownBlock=some r->w.heap.size<=r:=fun r e=>(d.lt r e).1;refine Zao r1 ⟨t.grown (by have:=hw.size;exact this) hv0 r3 (fun r e=>.inl (hr r e)),.inr ⟨{Gh.zero with a1:=gB,c1:=O},by simp[mkR6,Ne.symm n2,Ne.symm n5,n8,Ne.symm o3],?_⟩⟩;rw[ZaV,ZJ n2,ZJ n5,ZJ (Ne.symm n8),ZJ (Ne.symm n9),Zaa,upd_ne n2,upd_ne n5,upd_ne (Ne.symm n8),upd_ne (Ne.symm n9),l2,E];refine⟨⟨fun _=>⟨lc,V⟩,(fun h=>by cases h),(fun h=>by cases h)⟩,(fun h=>by cases h),(fun h=>by cases h),fun _=>r2,(fun _ h=>by cases h),fun _=>Zaq (K E) fun r e=>r3.block r ?_ ?_,(fun h=>by cases h)⟩;·exact ZBJ (R r e) t.2.1
   ·intro e';have:=hr r e'.symm;have:=R r e;omega
  ·have p:=d2 o I f;have E:=aC J;refine Zao (hal2 o I g x) ⟨t.below (ZC _ _),.inr ⟨{Gh.zero with b:=x.heap.size},by simp[mkR6,Ne.symm n3,Ne.symm n6,Ne.symm o4],?_⟩⟩;rw[ZaV,ZJ n3,ZJ n6,ZJ n8,ZJ (Ne.symm G),Zaa,upd_ne n3,upd_ne n6,upd_ne n8,upd_ne (Ne.symm G),p,E];exact⟨⟨fun _=>k1 p,fun _=>rfl,(fun h=>by cases h)⟩,(fun h=>by cases h),(fun h=>by cases h),fun _=>ZK (j3 p) (ZC _ _),fun _ _=>⟨t.2.1,ZA _ _ rfl⟩,fun _=>ZK (K E) (ZC _ _),(fun h=>by cases h)⟩
  ·have V:=d3 o I f;have p:=k2 V;obtain⟨z,s,r1,r2,r3,r4⟩:=hap2 o I g x t (K J) (j4 J V).2;obtain⟨gB,O,rfl⟩:=Z2 r2;have d:=j3 p;refine Zao r1 ⟨t.grown hw.size hv0 r3 (fun r e=>.inr e),.inr ⟨{Gh.zero with a1:=gB,c1:=O},by simp[mkR6,Ne.symm n4,Ne.symm n7,Ne.symm n9,Ne.symm G,Ne.symm o5],?_⟩⟩;rw[ZaV,ZJ n4,ZJ n7,ZJ n9,ZJ G,Zaa,upd_ne n4,upd_ne n7,upd_ne n9,upd_ne G,p,V];refine⟨⟨fun _=>k1 p,fun _=>rfl,fun _=>rfl⟩,(fun h=>by cases h),(fun h=>by cases h),fun _=>Zaq d fun r e=>r3.block r ?_ ?_,(fun h=>by cases h),(fun h=>by cases h),fun _=>⟨r2,?_⟩⟩;·exact(d.lt r e).2
   ·intro e';have:=(d.lt r e).1;have:=R r e'.symm;omega
   ·rcases r4 with h|h;·exact .inl h
    ·refine .inr ⟨_,h,t.2.1,fun e=>?_⟩;have:=(d.lt _ e.symm).2;omega
 ·rintro g x ⟨-,-,-,j3,-,-,N⟩ t aA;exact hend g x t (j3 rfl) (N rfl).1 (N rfl).2
theorem Zti{f:Operand->Value} {o:Oper} {x:World} (s y:Operand)(t e:TypeId)(i:TypeInfo)(z:Value)(d base b c n:Nat) {A:Option Addr} {l:List Int} (hn:l.length=n)(ho:o.op=.call {callee:=.builtin .append,args:=#[s,y],argTypes:=#[t,t]})(hs:f s=.slice (some b) 0 0)(N:f y=.slice A n c)(ht:P.underlying t=some (.slice e))(hi:P.info? e=some i)(hz:i.zero=some z)(p:i.size=1)(I:i.bytes=d)(O:z.cells.size=1)(G:d<=1000)(r:At 1 Zc x A l)(hne:0<l.length)(Z:l.length<=1000)(H:base<=x.heap.size):∃V R,(execOp f o).run P x=.ok (.value V) R/\R.ownsRow base e 1 V n (l.map (Value.int .i64))/\QB x R:=by
 subst hn;obtain⟨a,rfl⟩:∃a,A=some a:=by obtain⟨D,Q,h,-⟩:=r 0 _ (ZAm hne);exact⟨_,h⟩
 have m:∀j u,(l.map (Value.int .i64))[j]?=some u->x.cell? (a.add j)=some u:=fun j u U=>by
  rw[ZAq]at U;obtain⟨y,N,rfl⟩:=ZB7.1 U;obtain⟨D,Q,h,-,Y⟩:=r j y N;cases h;have:=Y 0 _ rfl;have e:Addr.add ⟨D,Q,none⟩ j=⟨D,Q+j,none⟩:=by unfold Addr.add;split<;>simp_all
  rw[e];simpa using this
 have X:l.length*d<=1000*1000:=ZBP Z G;subst I;have K:(l.map (Value.int .i64)).length=l.length*i.size:=by simp[p]
 have S:=run_append_grow (P:=P) (w:=x) t o.type e i z ht hi hz ⟨b,0,none⟩ 0 0 [] Qd Qd a l.length c (l.map (Value.int .i64)) K m Qa Qa (growslice_fits Qa (by rw[ZB1];omega));simp only[ZB1]at S;have L:=grownCap_ge x l.length 0 e;have J:grownCap x l.length 0 e<=maxLen:=grownCap_le_maxLen x l.length 0 e Qq;have E:QB x (x.drew.alloc (.cells (([]:List Value).toArray++(l.map (Value.int .i64)).toArray++Builtin.zeroCells z.cells (grownCap x l.length 0 e-l.length)) e)):=((ZyU _ x).drew).alloc Qd _;refine⟨_,_,?_,⟨Qd,.inr ⟨x.heap.size,_,_,rfl,H,heap_alloc_new x.drew _,L,J,?_,?_⟩⟩,E⟩;·unfold execOp;simp only[ho,resolve,invoke,builtin,Sem.run_bind,Sem.run_pure,Result.andThen_ok,ZAT,ZAN,ZAQ,hs,N,S]
 ·simp only[Array.size_append,ZBl,size_zeroCells,O,ZAD,ZAE,ZB1,ZBR];omega
 ·simp only[Array.toList_append,ZBb,ZBR];rw[show l.length=(l.map (Value.int .i64)).length by simp];exact List.take_left
theorem ZmJ{f:Operand->Value} {o:Oper} {x:World} (s y:Operand)(t e:TypeId)(i:TypeInfo)(I v:Value)(d base n b:Nat)(xs:List Value)(u:Value)(tb:TypeId)(O:o.op=.call {callee:=.builtin .append,args:=#[s,y],argTypes:=#[t,t]})(hs:f s=v)(R:f y=.slice (some b) 1 1)(Q:P.underlying t=some (.slice e))(hi:P.info? e=some i)(hz:i.zero=some I)(p:i.size=1)(G:i.bytes=d)(H:I.cells.size=1)(E:d<=1000)(hown:x.ownsRow base e 1 v n xs)(hb:x.heap[b]?=some (.cells #[u] tb))(K:u.oneCell'=true)(D:n+1<=1000)(m:base<=x.heap.size):∃r z,(execOp f o).run P x=.ok (.value r) z/\z.ownsRow base e 1 r (n+1) (xs++[u])/\x.grownBy z v.ownBlock/\(r.ownBlock=v.ownBlock∨r.ownBlock=some x.heap.size):=by
 have L:(n+1)*d<=1000*1000:=ZBP D E;obtain⟨g,J,z,S,U,V,X,Y⟩:=run_append_lies (P:=P) x t o.type base e i I 1 d Q hi hz p G H Qc v n xs hown ⟨b,0,none⟩ 1 1 [u] Qd (fun j r N=>World.news_of_block hb j r (by simpa using N)) (by simpa using K) Qc Qq Qa m _ rfl;refine⟨_,z,?_,U,V,?_⟩;·unfold execOp;simp only[O,resolve,invoke,builtin,Sem.run_bind,Sem.run_pure,Result.andThen_ok,ZAT,ZAN,ZAQ,hs,R,S]
 ·rcases X with h|h;·exact .inl h.symm
  ·subst h;exact .inr rfl
theorem RowsOwn.row6{w0 w x:World} {base n:Nat} {v:Value} {m p:Option Addr} {s f:Nat} {xs:List IR} {l:List Int} (h:RowsOwn w base v xs)(hb:base<=w.heap.size)(E:Z0 w0 w v x)(D:x.ownsRow w.heap.size 3 1 (.slice p n f) n (l.map (Value.int .i64)))(Y:0<n)(N:x.ownsRow base 31 1 (.slice m (xs.length+1) s) (xs.length+1) ((xs.map fun x=>Value.slice x.A x.l.length x.c)++[.slice p n f]))(J:(Value.slice m (xs.length+1) s).ownBlock=v.ownBlock∨∃r,(Value.slice m (xs.length+1) s).ownBlock=some r/\w.heap.size<=r/\some r≠(Value.slice p n f).ownBlock):RowsOwn x base (.slice m (xs.length+1) s) (xs++[⟨p,f,l⟩]):=by
 have I:l.length=n:=by have:=D.1;simpa using this
 refine⟨?_,fun y d=>?_⟩;·rw[ZAA,ZAL];simpa [I] using N
 ·rcases ZAU.1 d with d|d
  ·obtain⟨X,L⟩:=h.row y d;refine⟨fun k z S=>?_,fun a t=>?_⟩;·obtain⟨b,o,K,i,O⟩:=X k z S;obtain⟨q1,q2,q3⟩:=L _ K;refine⟨b,o,K,ZBJ i E.2.1,fun j u R=>?_⟩;rw[<-O j u R];exact World.cell?_of_block (a:=⟨b,o+k*1+j,none⟩) (E.2.2 b i q3)
   ·obtain⟨q1,q2,q3⟩:=L a t;refine⟨q1,ZBJ q2 E.2.1,?_⟩;rcases J with e|⟨r,e,Q,-⟩;·rw[e];exact q3
    ·rw[e];intro G;cases G;omega
  ·rw[ZA9]at d;subst d;refine⟨ZaA (n:=n) (c:=f) D,fun a t=>?_⟩;dsimp only at t;subst t;obtain⟨U,V⟩:=D.lt a.block rfl;refine⟨ZBG hb U,V,?_⟩;rcases J with e|⟨r,e,Q,G⟩;·rw[e];intro H;have:=(h.own.lt _ H.symm).2;omega
   ·rw[e];exact fun H=>G H.symm
end
section
variable {P:Program} {n:Nat}
theorem ZmK{l:Nat} {o:Oper} {a:Act} {w:World} {K:Act->World->Prop} {Q:Exit->Act->World->Prop} (p:∀c,o.op≠.defer c)(h:o.wp P a w K Q):o.wpIn (Fence.wide.inRound l) n P a w K Q:=by unfold Oper.wpIn;refine⟨fun _ _=>trivial,?_⟩;rw[Oper.semAt_eq _ _ _ p];unfold Oper.wp at h;generalize (execOp a.eval o).run P w=r at*;cases r with
 |ok nx w'=>
  cases nx<;>simp only[Oper.upon]at h<;>simp only[Oper.uponIn];case value u=>exact h
  case skip=>exact h
  case defer d=>exact h
  case enter f args=>exact⟨fun i=>(by cases i),(callsIn_wide.2 h).inRound l⟩
  case row r args=>refine⟨fun i=>(by cases i),fun c cs _=>?_⟩;obtain⟨v,m,q,s⟩:=h c cs;exact⟨v,m,q,stepsIn_wide.2 s⟩|halt x w'=>cases x<;>simp only[Oper.upon]at h<;>simp only[Oper.uponIn];exact h
theorem Ztj{ops:Array Oper} {l i:Nat} {a:Act} {w:World} {K m:Act->World->Prop} {Q:Exit->Act->World->Prop} (r:∀o∈ops,∀c,o.op≠.defer c)(hL:¬LetsOut Q)(p:∀a w,K a w->m a w)(h:wpOp P ops Q i K a w):wpOpIn (Fence.wide.inRound l) n P ops Q i m a w:=by
 have h:=wpOp_mono p h;unfold wpOp at h;unfold wpOpIn;split;·rename_i d;simpa only[d] using h
 ·rename_i o d;simp only[d]at h;split
  ·rename_i f;rw[if_pos f]at h;rcases h with h|h;·exact ZmK (r o (ZyN d)) h
   ·exact absurd h.2 hL
  ·rename_i f;rw[if_neg f]at h;exact⟨fun _ _=>trivial,h⟩
theorem ZmL{ops:Array Oper} {md:Region.Mode} {l:Nat} {Q:Exit->Act->World->Prop} (m:∀o∈ops,∀c,o.op≠.defer c)(hL:¬LetsOut Q):∀(f:Nat)(d:Array Bool)(a:Act)(w:World),wpAny P md ops Q f d a w->wpAnyIn (Fence.wide.inRound l) n P md ops Q f d a w|0,_,_,_,h=>h|f+1,_,_,_,h=>⟨h.1,fun i s=>Ztj m hL (fun p t r=>ZmL m hL f _ p t r) (h.2 i s)⟩
theorem Zej{ops:Array Oper} {l:Nat} {Q:Exit->Act->World->Prop} (hL:¬LetsOut Q):∀(os:List Oper)(a:Act)(w:World),os.all (fun o=>match o.op with|.defer _=>false|_=>true)=true->wpList P ops Q os a w->wpListIn (Fence.wide.inRound l) n P ops Q os a w
 |[],_,_,_,h=>h|o::rest,a,w,hd,h=>by
  simp only[ZzI,ZyW]at hd;have d:∀c,o.op≠.defer c:=fun c p=>by rw[p]at hd;cases hd.1
  unfold wpList at h;unfold wpListIn;split
  ·rename_i f;rw[if_pos f]at h;rcases h with h|h;·exact ZmK d (Oper.wp_mono (fun i r m=>Zej hL rest i r hd.2 m) h)
   ·exact absurd h.2 hL
  ·rename_i f;rw[if_neg f]at h;exact⟨fun _ _=>trivial,Zej hL rest _ _ hd.2 h⟩
def ZcX(w0 w:World)(d f h:Nat)(x:World):Prop:=QB w0 x/\w.heap.size<=x.heap.size/\∀k,k<w.heap.size->k≠d->k≠f->k≠h->x.heap[k]?=w.heap[k]?
theorem Ztk{Q:Exit->Act->World->Prop} {a0:Act} {w:World} {l:List Oper} (w0:World)(p q r:Nat)(f i m:Nat)(y4 z4 y5 z5 y6 z6:Obj)(I:Act)(hB:Zav l.toArray=true) (hB':Zav (mixL [p,q,r] (fun _ _=>undef) (fun _=>Gh.zero) 0 l).toArray=true) (hS:Region.noSelect l.toArray=true) (hN:spB l.toArray [p,q,r]=true) (hne:p≠q/\p≠r/\q≠r)(hkd:(match l[p]?,l[q]?,l[r]? with|some o,some o',some o''=>o.dst.isNone&&o'.dst.isNone&&o''.dst.isNone|_,_,_=>false)=true)(hw:QB w0 w)(hb:w0.heap.size<=f/\w0.heap.size<=i/\w0.heap.size<=m)(hbn:f≠i/\f≠m/\i≠m)(h4:w.heap[f]?=some y4)(h5:w.heap[i]?=some y5)(h6:w.heap[m]?=some y6)(hs4:∀o,l[p]?=some o->∀x,ZcX w0 w f i m x->x.heap[f]?=some y4->∃d,(execOp I.eval o).run P x=.ok .skip d/\OnlyB f x d/\d.heap[f]?=some z4)(hs5:∀o,l[q]?=some o->∀x,ZcX w0 w f i m x->x.heap[i]?=some y5->∃d,(execOp I.eval o).run P x=.ok .skip d/\OnlyB i x d/\d.heap[i]?=some z5)(hs6:∀o,l[r]?=some o->∀x,ZcX w0 w f i m x->x.heap[m]?=some y6->∃d,(execOp I.eval o).run P x=.ok .skip d/\OnlyB m x d/\d.heap[m]?=some z6)(hq:∀u,ZcX w0 w f i m u->(∀(x:Grew u)(b o:Nat),b<u.heap.size->x.val.cell? ⟨b,o,none⟩=u.cell? ⟨b,o,none⟩)->wpQuiet P (mixL [p,q,r] (fun _ _=>undef) (fun _=>Gh.zero) 0 l).toArray (fun w'=>∃x:Grew u,w'=x.val) (fun a'=>a'=I) (mixL [p,q,r] (fun _ _=>undef) (fun _=>Gh.zero) 0 l) a0)(hend:∀x,ZcX w0 w f i m x->x.heap[f]?=some z4->x.heap[i]?=some z5->x.heap[m]?=some z6->Q .normal I x):wpAny P .any l.toArray Q l.toArray.size (Array.replicate l.toArray.size false) a0 {w with drawn:=w.drawn+1}:=by
 obtain⟨n1,n2,n3⟩:=hne;obtain⟨e1,e2,e3⟩:=hbn;have O:∀j∈[p,q,r],∀o,l[j]?=some o->o.dst=none:=by cases K:l[p]? with|none=>rw[K]at hkd;simp at hkd|some o1=>cases V:l[q]? with|none=>rw[K,V]at hkd;simp at hkd|some o2=>cases Z:l[r]? with
    |none=>rw[K,V,Z]at hkd;simp at hkd|some o3=>
     rw[K,V,Z]at hkd;simp only[ZyW,Option.isNone_iff_eq_none]at hkd;intro j J o t;simp only[ZAX,ZBe,or_false]at J;rcases J with rfl|rfl|rfl;·rw[K]at t;cases t;exact hkd.1.1
     ·rw[V]at t;cases t;exact hkd.1.2
     ·rw[Z]at t;cases t;exact hkd.2
 have H:∀{x d:World} {b:Nat},ZcX w0 w f i m x->OnlyB b x d->(b=f∨b=i∨b=m)->ZcX w0 w f i m d:=fun {x d b} h t N=>⟨h.1.trans (t.below _ (by rcases N with rfl|rfl|rfl;exact hb.1;exact hb.2.1;exact hb.2.2)),ZBG h.2.1 (t.below 0 (ZB2 _)).size,fun k Y y z D=>(t.other k (by rcases N with rfl|rfl|rfl<;>assumption)).trans (h.2.2 k Y y z D)⟩;have aC:∀{x d:World},ZcX w0 w f i m x->QB x d->ZcX w0 w f i m d:=fun {x d} h s=>⟨via h.1 s,ZBG h.2.1 s.size,fun k Y y z D=>(s.block k (ZBJ Y h.2.1)).trans (h.2.2 k Y y z D)⟩;have R:∀g g',mixL [p,q,r] (fun _ _=>undef) g 0 l=mixL [p,q,r] (fun _ _=>undef) g' 0 l:=fun g g'=>by apply Zz5;intro j;have y:=Zee [p,q,r] (fun _ _=>undef) g l 0 j;have z:=Zee [p,q,r] (fun _ _=>undef) g' l 0 j;rw[y,z]
 refine ZcF w0 (ZcX w0 w f i m) [p,q,r] (fun _ _=>undef) (fun L g x=>x.heap[f]?=some (if L p then z4 else y4)/\x.heap[i]?=some (if L q then z5 else y5)/\x.heap[m]?=some (if L r then z6 else y6)) (fun _=>I) hB (fun g=>by rw[R g (fun _=>Gh.zero)];exact hB') hS hN
  ⟨hw,ZBF _,fun _ _ _ _ _=>rfl⟩ (fun x d h hb=>aC h hb) (fun x h=>h.1) ?_ ?_ (fun g u hu aB _ _=>by rw[R g (fun _=>Gh.zero)];exact hq u hu aB) (fun _ _ _ _=>rfl) ?_ ?_;·intro L h;rw[h p Qd,h q Qd,h r Qd];exact⟨h4,h5,h6⟩
 ·rintro L L' g x d h ⟨y,z,D⟩ s;rw[h p Qd,h q Qd,h r Qd];exact⟨Zx s y,Zx s z,Zx s D⟩
 ·intro j J o t L g x ⟨y,z,D⟩ G aA hL X aD;have hd:=O j J o t;simp only[ZAX,ZBe,or_false]at J;rcases J with rfl|rfl|rfl;·rw[hL]at y;obtain⟨d,S,E,U⟩:=hs4 o t x G y;refine ZcB S ⟨H G E (.inl rfl),.inl ⟨hd,?_⟩⟩;rw[ZaV,ZJ (Ne.symm n1),ZJ (Ne.symm n2)];exact⟨U,E.keep (Ne.symm e1) z,E.keep (Ne.symm e2) D⟩
  ·rw[hL]at z;obtain⟨d,S,E,U⟩:=hs5 o t x G z;refine ZcB S ⟨H G E (.inr (.inl rfl)),.inl ⟨hd,?_⟩⟩;rw[ZaV,ZJ n1,ZJ (Ne.symm n3)];exact⟨E.keep e1 y,U,E.keep (Ne.symm e3) D⟩
  ·rw[hL]at D;obtain⟨d,S,E,U⟩:=hs6 o t x G D;refine ZcB S ⟨H G E (.inr (.inr rfl)),.inl ⟨hd,?_⟩⟩;rw[ZaV,ZJ n2,ZJ n3];exact⟨E.keep e2 y,E.keep e3 z,U⟩
 ·rintro g x ⟨y,z,D⟩ G aA;simp only[if_true]at y z D;exact hend x G y z D
end
section
variable {P:Program}
def ZfT(o:Oper):List Nat:=(o.after.toList.filter (Region.binds .any)).map (·.on)
def ZmM(l:List Oper)(S:List Nat):List Nat:=S.foldl (fun d i=>match l[i]? with|some o=>(ZfT o).foldl (fun a e=>if a.contains e then a else a++[e]) d|none=>d) S
def Zg7(l:List Oper):Nat->List Nat->List Nat|0,S=>S|n+1,S=>Zg7 l n (ZmM l S)
def ZfU(l:List Oper)(sp:List Nat)(d:Nat->List Nat):Bool:=sp.all fun j=>match l[j]? with|some o=>(d j).all fun i=>(Zg7 l l.length (ZfT o)).contains i|none=>false
theorem Zjf{o:Oper} {L:Nat->Bool} (h:∀e∈o.after,Region.binds .any e=true->L e.on=true):∀i∈ZfT o,L i=true:=by intro i p;obtain⟨e,m,rfl⟩:=ZA3.1 p;obtain⟨d,f⟩:=ZA0.1 m;exact h e (by simpa using d) f
theorem Ztl{l:List Oper} {L:Nat->Bool} (y:∀(i:Nat)(o:Oper),l[i]?=some o->L i=true->∀e∈o.after,Region.binds .any e=true->L e.on=true) {S:List Nat} (hS:∀i∈S,L i=true):∀i∈ZmM l S,L i=true:=by
 have p:∀(es d:List Nat),(∀i∈d,L i=true)->(∀i∈es,L i=true)->∀i∈es.foldl (fun a e=>if a.contains e then a else a++[e]) d,L i=true:=by intro es;induction es with|nil=>intro d h _ i m;exact h i m|cons e es ih=>
   intro d h s i m;refine ih _ (fun j f=>?_) (fun j f=>s j (by simp[f])) i m;dsimp only at f;split at f;·exact h j f
   ·rcases ZAU.1 f with f|f;·exact h j f
    ·rw[ZA9]at f;subst f;exact s _ Qd
 have r:∀(T d:List Nat),(∀i∈T,L i=true)->(∀i∈d,L i=true)->∀i∈T.foldl (fun d i=>match l[i]? with|some o=>(ZfT o).foldl (fun a e=>if a.contains e then a else a++[e]) d|none=>d) d,L i=true:=by intro T;induction T with
  |nil=>intro d _ h i m;exact h i m|cons t T ih=>
   intro d u h i m;refine ih _ (fun j f=>u j (by simp[f])) (fun j f=>?_) i m;dsimp only at f;split at f;·rename_i o z;exact p _ _ h (Zjf (y t o z (u t Qd))) j f
   ·exact h j f
 exact r S S hS hS
theorem Zjg{l:List Oper} {L:Nat->Bool} (d:∀(i:Nat)(o:Oper),l[i]?=some o->L i=true->∀e∈o.after,Region.binds .any e=true->L e.on=true):∀(n:Nat) {S:List Nat},(∀i∈S,L i=true)->∀i∈Zg7 l n S,L i=true|0,_,hS=>hS|n+1,_,hS=>Zjg d n (Ztl d hS)
theorem ZfV{l:List Oper} {sp:List Nat} {d:Nat->List Nat} (h:ZfU l sp d=true) {L:Nat->Bool} (p:∀(i:Nat)(o:Oper),l[i]?=some o->L i=true->∀e∈o.after,Region.binds .any e=true->L e.on=true) {j:Nat} (s:j∈sp) {o:Oper} (t:l[j]?=some o)(ha:∀e∈o.after,Region.binds .any e=true->L e.on=true):∀i∈d j,L i=true:=by have f:=ZzJ.1 h j s;rw[t]at f;intro i r;have m:=ZzJ.1 f i r;exact Zjg p _ (Zjf ha) i (by simpa using m)
def ZmN(ops:Array Oper):Bool:=(List.range ops.size).all fun i=>match ops[i]? with|some o=>o.after.all fun e=>!Region.binds .any e||decide (e.on<i)|none=>true
theorem Ztm{ops:Array Oper} (h:ZmN ops=true)(i:Nat)(o:Oper)(e:Edge)(m:ops[i]?=some o)(p:e∈o.after)(hb:Region.binds .any e=true):e.on<i:=by have d:=ZzJ.1 h i (ZA8.2 (ZbS m));rw[m]at d;have f:=Array.all_eq_true'.1 d e p;rw[hb]at f;simpa using f
theorem ZmO{ops:Array Oper} (H:∀(i:Nat)(o:Oper)(e:Edge),ops[i]?=some o->e∈o.after->Region.binds .any e=true->e.on<i) {d:Array Bool} (hz:d.size=ops.size)(h:Region.ready .any ops d=[]):∀j,j<ops.size->d.getD j true=true:=by intro j;induction j using Nat.strongRecOn with|_ j ih=>intro m;cases u:d.getD j true with
  |true=>rfl|false=>exfalso;have:j∈Region.ready .any ops d:=mem_ready.2 ⟨u,ops[j],Zyw m,fun e t s=>by
    have p:=H j _ e (Zyw m) t s;have f:=ih e.on p Qa;have r:e.on<d.size:=Qa
    simp[r]at f |-;exact f⟩;rw[h]at this;cases this
theorem Zbt {Q : Exit -> Act -> World -> Prop} {a0 : Act} {w : World} {l : List Oper} (n : Nat) (O : Oper) (hn : l.length = n + 1) (hz : l[n]? = some O)
    (hB : ZmN (l.take n).toArray = true) (hG : l.all (fun o => o.guard.isNone) = true) (hA : (List.range n).all (fun i => (Zg7 l l.length (ZfT O)).contains i) = true) (hE : O.after.all (fun e => !Region.binds .any e || decide (e.on < n)) = true)
    (h : wpAny P .any (l.take n).toArray (fun e a x => match e with | .normal => O.wp P a x (fun a' E => Q .normal a' E) Q | e => Q e a x) (l.take n).toArray.size (Array.replicate (l.take n).toArray.size false) a0 { w with drawn := w.drawn + 1 }) :
    wpAny P .any l.toArray Q l.toArray.size (Array.replicate l.toArray.size false) a0 { w with drawn := w.drawn + 1 } := by
  have H := Ztm hB
  have bA : (l.take n).length = n := Qo
  have aJ : ∀ (i : Nat) (o : Oper), l[i]? = some o -> o.guard = none := fun i o u => by
    have := ZzJ.1 hG o (ZA5 u)
    simpa using this
  have G : ∀ i, i < n -> (l.take n).toArray[i]? = l.toArray[i]? := fun i D => by simp [List.getElem?_take_of_lt D]
  have Z : ∀ i, n <= i -> (l.take n).toArray[i]? = none := fun i D => by simp [ZAn (show (l.take n).length <= i by omega)]
  have p : ∀ (m : Array Bool) (b d : Bool) (i : Nat), m.size = n -> i < n -> (m.push b).getD i d = m.getD i d := fun m b d i s D => by
    rw [Zyt, Zyt, ZyD Qa]
    simp [Zyw (show i < m.size by omega)]
  have X : ∀ (m : Array Bool) (b d : Bool), m.size = n -> (m.push b).getD n d = b := fun m b d s => by
    rw [Zyt, <- s]
    simp
  have aQ : ∀ (m : Array Bool) (b : Bool) (i : Nat), m.size = n -> i < n -> (i ∈ Region.ready .any l.toArray (m.push b) ↔ i ∈ Region.ready .any (l.take n).toArray m) := fun m b i s D => by
    rw [mem_ready, mem_ready, p _ _ _ _ s D, G i D]
    constructor
    · rintro ⟨I, o, u, h2⟩
      refine ⟨I, o, u, fun e z N => ?_⟩
      have := H i o e ((G i D).trans u) z N
      rw [<- p m b false e.on s Qa]
      exact h2 e z N
    · rintro ⟨I, o, u, h2⟩
      refine ⟨I, o, u, fun e z N => ?_⟩
      have := H i o e ((G i D).trans u) z N
      rw [p m b false e.on s Qa]
      exact h2 e z N
  let Cl : Array Bool -> Prop := fun m => ∀ (i : Nat) (o : Oper), l[i]? = some o -> i < n -> m.getD i true = true -> ∀ e ∈ o.after, Region.binds .any e = true -> m.getD e.on true = true
  have aR : ∀ (f : Nat) (m : Array Bool) (a : Act) (x : World), m.size = n -> Cl m -> wpAny P .any (l.take n).toArray (fun e a x => match e with | .normal => O.wp P a x (fun a' E => Q .normal a' E) Q | e => Q e a x) f m a x -> wpAny P .any l.toArray Q (f + 1) (m.push false) a x := by
    have aG : ∀ (f : Nat) (m : Array Bool) (a : Act) (x : World), m.size = n -> (∀ i, i < n -> m.getD i true = true) -> O.wp P a x (fun a' E => Q .normal a' E) Q -> wpAny P .any l.toArray Q (f + 1) (m.push false) a x := by
      intro f m a x s hu hw
      have aO : n ∈ Region.ready .any l.toArray (m.push false) := by
        rw [mem_ready]
        refine ⟨X _ _ _ s, O, by simpa using hz, fun e z N => ?_⟩
        have I := Array.all_eq_true'.1 hE e z
        rw [N] at I
        simp only [Bool.not_true, Zy1, decide_eq_true_eq] at I
        rw [p _ _ _ _ s I]
        have := hu e.on I
        rw [Zyt, Zyw Qa] at this |-
        exact this
      refine ⟨fun h0 => (by rw [h0] at aO; cases aO), fun i D => ?_⟩
      have t : i = n := by
        obtain ⟨I, o, u, -⟩ := mem_ready.1 D
        have aL : i < l.length := by simpa using ZbS u
        rcases ZBK i n with h | h
        · rw [p _ _ _ _ s h, hu i h] at I
          cases I
        · omega
      subst t
      have V : (m.push false).setIfInBounds i true = m.push true := by
        apply Zyq
        intro j
        rw [ZyF, ZyC, ZyC]
        simp only [Array.size_push, s]
        by_cases h : i = j
        · subst h; simp [s]
        · simp [h, s, Ne.symm h]
      have aT : wpAny P .any l.toArray Q f (m.push true) = fun a' E => wpAny P .any l.toArray Q f (m.push true) a' E := rfl
      have K : Region.ready .any l.toArray (m.push true) = [] := by
        rw [List.eq_nil_iff_forall_not_mem]
        intro j Y
        obtain ⟨I, o, u, -⟩ := mem_ready.1 Y
        have aL : j < l.length := by simpa using ZbS u
        rcases ZBK j i with h | h
        · rw [p _ _ _ _ s h, hu j h] at I
          cases I
        · have : j = i := Qa
          subst this
          rw [X _ _ _ s] at I
          cases I
      have hK : ∀ a' E, Q .normal a' E -> wpAny P .any l.toArray Q f (m.push true) a' E := fun a' E h => by
        cases f with
        | zero => exact ⟨K, h⟩
        | succ f => exact ⟨fun _ => h, fun j Y => by rw [K] at Y; cases Y⟩
      unfold wpOp
      have aX : l.toArray[i]? = some O := by simpa using hz
      simp only [aX]
      have aW : Region.wanted O (yielded l.toArray a.tmps) = true := by unfold Region.wanted; rw [aJ i O hz]
      rw [if_pos aW, V]
      exact .inl (Oper.wp_mono hK hw)
    intro f
    induction f with
    | zero =>
      rintro m a x s aC ⟨hr, hq⟩
      exact aG 0 m a x s (fun i D => ZmO H (by simp [s]; omega) hr i Qo) hq
    | succ f ih =>
      rintro m a x s aC ⟨hr, hq⟩
      by_cases K : Region.ready .any (l.take n).toArray m = []
      · exact aG (f + 1) m a x s (fun i D => ZmO H (by simp [s]; omega) K i Qo) (hr K)
      · have aU : ∀ i, i ∈ Region.ready .any l.toArray (m.push false) -> i < n := by
          intro i D
          obtain ⟨I, o, u, h2⟩ := mem_ready.1 D
          have aL : i < l.length := by simpa using ZbS u
          rcases ZBK i n with h | h
          · exact h
          · have t : i = n := Qa
            subst t
            exfalso
            obtain ⟨j, Y⟩ := List.exists_mem_of_ne_nil _ K
            obtain ⟨h3, o3, S, -⟩ := mem_ready.1 Y
            have aE : j < i := by
              rcases ZBK j i with h | h
              · exact h
              · rw [Z j h] at S; cases S
            have aY : o = O := by
              rw [show l.toArray[i]? = l[i]? by simp, hz] at u
              exact (ZB9 u).symm
            subst aY
            have h4 := ZzJ.1 hA j (ZA8.2 aE)
            have U : ∀ e ∈ o.after, Region.binds .any e = true -> m.getD e.on true = true := fun e z N => by
              have h5 := h2 e z N
              have aA := Array.all_eq_true'.1 hE e z
              rw [N] at aA
              simp only [Bool.not_true, Zy1, decide_eq_true_eq] at aA
              rw [p _ _ _ _ s aA] at h5
              exact ZfQ h5
            have h5 := Zjg (l := l) (L := fun k => m.getD k true) (fun k o' J hL e z N => by
              rcases ZBK k i with hk | hk
              · exact aC k o' J hk hL e z N
              · have bB : k < l.length := (ZAp.1 J).1
                obtain rfl : k = i := Qa
                rw [hz] at J
                obtain rfl : o = o' := ZB9 J
                exact U e z N) l.length (Zjf U) j (by simpa using h4)
            rw [Zyt, Zyw Qa] at h3 h5
            simp only [ZB5] at h3 h5
            rw [h3] at h5
            cases h5
        refine ⟨fun h0 => ?_, fun i D => ?_⟩
        · exfalso
          obtain ⟨j, Y⟩ := List.exists_mem_of_ne_nil _ K
          have aE : j < n := by
            obtain ⟨h3, o3, S, -⟩ := mem_ready.1 Y
            rcases ZBK j n with h | h
            · exact h
            · rw [Z j h] at S; cases S
          have := (aQ m false j s aE).2 Y
          rw [h0] at this
          cases this
        · have t := aU i D
          have aD := (aQ m false i s t).1 D
          have R := hq i aD
          obtain ⟨-, o, u, -⟩ := mem_ready.1 aD
          have aN : l.toArray[i]? = some o := (G i t).symm.trans u
          have hg := aJ i o (by simpa using aN)
          unfold wpOp at R |-
          simp only [u] at R
          simp only [aN]
          have aP : ∀ y, Region.wanted o y = true := fun y => by unfold Region.wanted; rw [hg]
          rw [if_pos (aP _)] at R
          rw [if_pos (aP _)]
          have V : (m.push false).setIfInBounds i true = (m.setIfInBounds i true).push false := by
            apply Zyq
            intro j
            rw [ZyF, ZyC, ZyC, ZyF]
            simp only [Array.size_push, Array.size_setIfInBounds, s]
            by_cases h : i = j
            · subst h; simp [s, t, Nat.lt_succ_of_lt t, Nat.ne_of_lt t]
            · simp [h]
          rw [V]
          have aI : Cl (m.setIfInBounds i true) := by
            intro i' o' J aS hL e z aH
            have aZ : m.getD e.on true = true := by
              by_cases aK : i = i'
              · subst aK
                obtain ⟨-, o2, aM, aB⟩ := mem_ready.1 aD
                rw [G i t] at aM
                have e2 : l[i]? = some o2 := by simpa using aM
                rw [J] at e2
                obtain rfl : o' = o2 := ZB9 e2
                exact ZfQ (aB e z aH)
              · rw [getD_set_ne true aK] at hL
                exact aC i' o' J aS hL e z aH
            by_cases U : i = e.on
            · rw [U, Zi5]
            · rw [getD_set_ne true U]; exact aZ
          have aF : ∀ a' E, wpAny P .any (l.take n).toArray (fun e a x => match e with | .normal => O.wp P a x (fun a' E => Q .normal a' E) Q | e => Q e a x) f (m.setIfInBounds i true) a' E -> wpAny P .any l.toArray Q (f + 1) ((m.setIfInBounds i true).push false) a' E := fun a' E h => ih _ a' E (by simp [s]) aI h
          rcases R with R | ⟨R, h7⟩
          · left
            refine Oper.wp_mono aF ?_
            unfold Oper.wp at R |-
            generalize (execOp a.eval o).run P x = r at *
            cases r with
            | ok nx w' =>
              cases nx with
              | enter f' args => exact (show Calls P f' args w' _ from R).mono fun e bC z => by cases e <;> exact z
              | _ => exact R
            | halt v w' => cases v <;> exact R
          · right
            exact ⟨R, h7⟩
  have aV : (Array.replicate (l.take n).toArray.size false).push false = Array.replicate l.toArray.size false := by
    rw [<- Array.replicate_succ]
    congr 1
    simp
    omega
  have := aR _ _ _ _ Qo (fun i o u D hL => by
    rw [Zyt, Zyw Qo] at hL
    simp at hL) h
  rw [aV] at this
  have e : (l.take n).toArray.size + 1 = l.toArray.size := Qo
  rwa [e] at this
theorem Zcg{K:Act->World->Prop} {Q:Exit->Act->World->Prop} {o:Oper} {a:Act} {w:World} (v:Value)(h:(execOp a.eval o).run P w=.ok (.value v) w)(d:K (a.put o.dst v) w):o.wp P a w K Q:=by unfold Oper.wp;rw[h];exact d
theorem Ztn{K:Act->World->Prop} {Q:Exit->Act->World->Prop} {o:Oper} {a:Act} {w:World} (p q:Operand)(t:TypeId)(s:o.op=.store t p q)(b:Nat)(vs cs:List Value)(T:TypeId)(hp:a.eval p=.pointer (some b))(hq:a.eval q=.agg vs.toArray)(d:(sizeOf t).run P w=.ok vs.length w)(hb:w.heap[b]?=some (.cells cs.toArray T))(r:cs.length=vs.length)(m:∀u∈vs,u.oneCell'=true)(h:∀w',w'.heap[b]?=some (.cells vs.toArray T)->w.grownBy w' (some b)->w'.heap.size=w.heap.size->K (a.put o.dst undef) w'):o.wp P a w K Q:=by
 obtain⟨f,y,z,D,E⟩:=Zg1 (P:=P) b T vs 0 cs w hb Qa m;unfold Oper.wp execOp;have i:(storeVar t ⟨b,0,none⟩ (.agg vs.toArray)).run P w=.ok () f:=by unfold storeVar;simp only[Sem.run_bind,d,Result.andThen_ok,Value.cells,ZBl,ne_eq,not_true_eq_false,if_false];exact y
 simp only[s,Instr.storeAt,Instr.sureAddr,hp,hq,Sem.run_bind,Sem.run_pure,Result.andThen_ok,i];refine h f ?_ D E;rw[z];congr 2;apply congrArg;simp[r]
end
section
variable {P:Program}
theorem Zg8{K i:Value->World->Prop} {r:Result Next} (h:ZbT P K r)(d:∀v x,K v x->i v x):ZbT P i r:=by cases r with
 |ok n x=>
  cases n<;>simp only[ZbT]at h |-;case value v=>exact d _ _ h
  case skip=>exact d _ _ h
  case enter f args=>exact h.mono fun e p ⟨v,m,o⟩=>⟨v,m,d _ _ o⟩|halt hh x=>exact h
def Zbk(d:List Nat)(f:Nat->Nat)(L:Nat->Bool)(j:Nat):Bool:=d.any fun k=>f k==j&&L k
theorem ZfW{Q:Exit->Act->World->Prop} {a0:Act} {w:World} {l:List Oper} (w0:World)(C:World->Prop)(r m:List Nat)(y:Nat->Nat)(N:Nat->List Nat)(mk:Nat->Gh->Value)(R:Nat->Bool->(Nat->Gh)->World->Prop)(Own:Nat->Gh->Nat->Prop)(af:(Nat->Gh)->Act)(hB:Zav l.toArray=true)(hB':∀g,Zav (mixL (r++m) mk g 0 l).toArray=true)(hS:Region.noSelect l.toArray=true)(hN:spB l.toArray (r++m)=true)(hnd:(r++m).Nodup)(htg:∀k∈m,y k∈r/\y k∈N k)(hinj:∀k∈m,∀k'∈m,y k=y k'->k=k')(hD:ZfU l (r++m) N=true)(hkd:m.all (fun k=>match l[k]? with|some o=>o.dst.isNone|none=>false)=true)(hC0:C w)(hCs:∀x D,C x->QB x D->C D)(hCw:∀x,C x->QB w0 x)(hCz:∀x,C x->w.heap.size<=x.heap.size)(hCo:∀x D b,C x->OnlyB b x D->w.heap.size<=b->C D)(hRb:∀j f g x D,R j f g x->QB x D->R j f g D)(hRg:∀i f g j h x,j≠i->j∉N i->(f=true->∀k∈m,y k=i->j∉N k)->R i f g x->R i f (upd g j h) x)(hRo:∀i f g b x D,C x->R i f g x->OnlyB b x D->w.heap.size<=b->¬Own i (g i) b->R i f g D)(hmake:∀j∈r,∀o,l[j]?=some o->∀(g:Nat->Gh)(x:World),C x->(∀i∈N j,i∈r->∃f,R i f g x/\∀b,Own i (g i) b->w.heap.size<=b/\b<x.heap.size)->ZbT P (fun v D=>∃h,v=mk j h/\R j false (upd g j h) D/\QB x D/\∀b,Own j h b->x.heap.size<=b/\b<D.heap.size) ((execOp (af g).eval o).run P x))(hstore:∀k∈m,∀o,l[k]?=some o->∀(g:Nat->Gh)(x:World),C x->R (y k) false g x->(∀i∈N k,i∈r->i≠y k->∃f,R i f g x)->∃D b,(execOp (af g).eval o).run P x=.ok .skip D/\Own (y k) (g (y k)) b/\OnlyB b x D/\R (y k) true g D)(hq:∀g u,C u->(∀(x:Grew u)(b o:Nat),b<u.heap.size->x.val.cell? ⟨b,o,none⟩=u.cell? ⟨b,o,none⟩)->Hid (∀x:Grew u,QB w0 x.val)->Hid (∀x:Grew u,C x.val)->wpQuiet P (mixL (r++m) mk g 0 l).toArray (fun w'=>∃x:Grew u,w'=x.val) (fun a'=>a'=af g) (mixL (r++m) mk g 0 l) a0)(hind:∀j∈r++m,∀g h,ZaB (ZaF l.toArray j 0 l []) 0 (af g).tmps.toList=ZaB (ZaF l.toArray j 0 l []) 0 (af (upd g j h)).tmps.toList)(hend:∀(g:Nat->Gh)(x:World),C x->(∀j∈r,R j (m.any fun k=>y k==j) g x/\(∀b,Own j (g j) b->w.heap.size<=b/\b<x.heap.size)/\∀i∈r,i≠j->∀b,Own j (g j) b->¬Own i (g i) b)->Q .normal (af g) x):wpAny P .any l.toArray Q l.toArray.size (Array.replicate l.toArray.size false) a0 {w with drawn:=w.drawn+1}:=by
 have aN:∀k∈m,∀o,l[k]?=some o->o.dst=none:=fun k hk o ho=>by have:=ZzJ.1 hkd k hk;rw[ho]at this;simpa using this
 have aC:∀j∈r,j∉m:=fun j X J=>by obtain⟨-,-,h⟩:=List.nodup_append.1 hnd;exact h j X j J rfl
 have aK:∀(L:Nat->Bool)(j k:Nat),j∈r->Zbk m y (Za7 L j) k=Zbk m y L k:=fun L j k X=>by
  unfold Zbk;rw[ZyZ,ZzM,ZzM];constructor;·rintro⟨s,J,h⟩;have:s≠j:=fun e=>aC j X (e▸J);rw[ZJ this]at h;exact⟨s,J,h⟩
  ·rintro⟨s,J,h⟩;have:s≠j:=fun e=>aC j X (e▸J);exact⟨s,J,by rw[ZJ this];exact h⟩
 refine ZcF w0 C (r++m) mk (fun L g x=>∀j∈r,L j=true->R j (Zbk m y L j) g x/\(∀b,Own j (g j) b->w.heap.size<=b/\b<x.heap.size)/\∀i∈r,i≠j->L i=true->∀b,Own j (g j) b->¬Own i (g i) b) af hB hB' hS hN hC0 hCs hCw ?_ ?_ hq hind ?_ ?_;·intro L h j X hL;rw[h j (ZAV _ X)]at hL;cases hL
 ·intro L L' g x D h hJ hb j X hL;have hf:Zbk m y L' j=Zbk m y L j:=by
   unfold Zbk;rw[ZyZ,ZzM,ZzM];constructor;·rintro⟨s,J,K⟩;rw[h s (ZAW _ J)]at K;exact⟨s,J,K⟩
   ·rintro⟨s,J,K⟩;exact⟨s,J,by rw[h s (ZAW _ J)];exact K⟩
  rw[h j (ZAV _ X)]at hL;obtain⟨U,V,h3⟩:=hJ j X hL;rw[hf];exact⟨hRb _ _ _ _ _ U hb,fun b p=>⟨(V b p).1,ZBJ (V b p).2 hb.size⟩,fun i H z E=>h3 i H z (by rw[<-h i (ZAV _ H)];exact E)⟩
 ·intro j X o ho L g x hJ hC aR hL aD aA;have aH:=ZfV hD aA X ho aD;have aG:∀i∈r++m,L i=true->∀d∈N i,L d=true:=fun i H E d hd=>by
   have:∃o,l[i]?=some o:=by have U:=ZzJ.1 hD i H;cases V:l[i]? with
    |none=>rw[V]at U;cases U|some o=>exact⟨o,rfl⟩
   obtain⟨o',aE⟩:=this;exact ZfV hD aA H aE (aA i o' aE E) d hd
  rcases ZAU.1 X with aO|I
  ·have aV:=hmake j aO o ho g x hC fun i H S=>by obtain⟨U,V,-⟩:=hJ i S (aH i H);exact⟨_,U,V⟩
   refine Zg8 aV ?_;rintro v D ⟨h,rfl,hR,hb,hO⟩;refine⟨hCs _ _ hC hb,.inr ⟨h,rfl,fun i H E=>?_⟩⟩;rw[aK L j i aO];by_cases O:i=j
   ·subst O;have aI:Zbk m y L i=false:=by unfold Zbk;rw[ZzL];intro k hk Y;simp only[ZyW,beq_iff_eq]at Y;have:=aG k (ZAW _ hk) Y.2 (y k) (htg k hk).2;rw[Y.1,hL]at this;cases this
    rw[aI];refine⟨hR,fun b p=>?_,fun Z G z t b p=>?_⟩;·rw[Zaa]at p;have:=hO b p;exact⟨ZBG (hCz x hC) this.1,this.2⟩
    ·rw[Zaa]at p;rw[upd_ne z];intro aF;rw[ZJ z]at t;have U:=(hO b p).1;have V:=((hJ Z G t).2.1 b aF).2;omega
   ·rw[ZJ O]at E;obtain⟨U,V,h3⟩:=hJ i H E;refine⟨hRg i _ g j h D (Ne.symm O) (fun hd=>?_) (fun hf k hk aU hd=>?_) (hRb _ _ _ _ _ U hb),fun b p=>?_,fun Z G z t b p=>?_⟩;·have:=aG i (ZAV _ H) E j hd;rw[hL]at this;cases this
    ·have aS:L k=true:=by unfold Zbk at hf;obtain⟨k',aT,Y⟩:=ZzM.1 hf;simp only[ZyW,beq_iff_eq]at Y;have:=hinj k' aT k hk (Y.1.trans aU.symm);rw[<-this];exact Y.2
     have:=aG k (ZAW _ hk) aS j hd;rw[hL]at this;cases this
    ·rw[upd_ne O]at p;have:=V b p;exact⟨this.1,ZBJ this.2 hb.size⟩
    ·rw[upd_ne O]at p;by_cases aB:Z=j;·subst aB;rw[Zaa];intro aF;have U:=(hO b aF).1;have aX:=(V b p).2;omega
     ·rw[upd_ne aB];rw[ZJ aB]at t;exact h3 Z G z t b p
  ·obtain⟨aQ,aW⟩:=htg j I;have aL:=aH _ aW;obtain⟨m1,m2,m3⟩:=hJ _ aQ aL;have aI:Zbk m y L (y j)=false:=by unfold Zbk;rw[ZzL];intro k hk Y;simp only[ZyW,beq_iff_eq]at Y;have:=hinj k hk j I Y.1;rw[this,hL]at Y;cases Y.2
   rw[aI]at m1;obtain⟨D,b,r1,r2,r3,r4⟩:=hstore j I o ho g x hC m1 fun i H S z=>⟨_,(hJ i S (aH i H)).1⟩;have aM:=m2 b r2;have aP:=(r3.below 0 (ZB2 _)).size;refine ZcB r1 ⟨hCo _ _ _ hC r3 aM.1,.inl ⟨aN j I o ho,fun i H E=>?_⟩⟩;have O:i≠j:=fun e=>aC i H (e▸I);rw[ZJ O]at E;by_cases S:i=y j
   ·subst S;have aJ:Zbk m y (Za7 L j) (y j)=true:=by unfold Zbk;rw[ZzM];exact⟨j,I,by rw[ZaV];simp⟩
    rw[aJ];refine⟨r4,fun b' p=>?_,fun Z G z t=>?_⟩;·have:=m2 b' p;exact⟨this.1,ZBJ this.2 aP⟩
    ·rw[ZJ (show Z≠j from fun e=>aC Z G (e▸I))]at t;exact m3 Z G z t
   ·have aJ:Zbk m y (Za7 L j) i=Zbk m y L i:=by
     unfold Zbk;rw[ZyZ,ZzM,ZzM];constructor;·rintro⟨s,J,K⟩;simp only[ZyW,beq_iff_eq]at K;have:s≠j:=fun e=>S (by rw[<-K.1,e]);rw[ZJ this]at K;exact⟨s,J,by simp[K.1,K.2]⟩
     ·rintro⟨s,J,K⟩;simp only[ZyW,beq_iff_eq]at K;have:s≠j:=fun e=>by rw[e,hL]at K;cases K.2
      exact⟨s,J,by rw[ZJ this];simp[K.1,K.2]⟩
    rw[aJ];obtain⟨U,V,h3⟩:=hJ i H E;refine⟨hRo _ _ _ b _ _ hC U r3 aM.1 (fun aE=>h3 (y j) aQ (Ne.symm S) aL b aE r2),fun b' p=>?_,fun Z G z t=>?_⟩;·have:=V b' p;exact⟨this.1,ZBJ this.2 aP⟩
    ·rw[ZJ (show Z≠j from fun e=>aC Z G (e▸I))]at t;exact h3 Z G z t
 ·intro g x hJ hC aR;refine hend g x hC fun j X=>?_;obtain⟨U,V,h3⟩:=hJ j X rfl;refine⟨?_,V,fun i H z=>h3 i H z rfl⟩;have:Zbk m y (fun _=>true) j=m.any fun k=>y k==j:=by simp[Zbk]
  rw[<-this];exact U
end
end Go.Proofs
namespace Go.Proofs
theorem Zjh:∀(n:Nat)(l:List Int),l.length<=n->dotL (List.replicate n 1) l=l.sum|n,[],_=>by cases n<;>simp[List.replicate,dotL]|0,_::_,h=>by simp at h|n+1,x::l,h=>by simp only[ZBi,dotL,ZBm];rw[Zjh n l (by simpa using h)];omega
theorem Zg9(n i k:Nat)(hk:k<n):(ZaI n i).getD k 0=if k=i then 1 else 0:=by simp[ZaI,ZAg,ZAs hk]
theorem Zto(m:List Int)(i:Nat):wsum m (fun k=>if k=i then 1 else 0)=m.getD i 0:=by induction m generalizing i with
 |nil=>simp[wsum]|cons x m ih=>cases i with
  |zero=>
   have:wsum m (fun k=>if k+1=0 then (1:Int)else 0)=0:=by rw[show (fun k:Nat=>if k+1=0 then (1:Int)else 0)=fun _=>0 by funext k;simp];exact ZiK m
   simp only[wsum,this];simp|succ i=>have:=ih i;simp only[wsum];rw[show (fun k:Nat=>if k+1=i+1 then (1:Int)else 0)=fun k=>if k=i then 1 else 0 by funext k;simp];rw[this];simp
theorem ZmP{n i:Nat} {l:List Int} (h:l.length<=n):dotL (ZaI n i) l=l.getD i 0:=by rw[ZfN _ _ (by simp[ZaI];exact h),<-Zto l i];apply Zl0;intro k x d _;exact Zg9 n i k (ZBJ (ZAp.1 d).1 h)
structure MixOf (np:Nat)(es:List Ex)(z t:List Nat)(m:List Int)(d:Int):Prop where
 len:m.length=np
 den:0<d
 nn:∀x∈m,0<=x
 sum:m.sum=d
 zero:∀i∈z,m.getD i 0=0
 per:∀x∈es,dotL x.1 m<=x.2*d
 tight:∀i∈t,∀x,es[i]?=some x->dotL x.1 m=x.2*d
theorem ZmQ(g:Int):∀m:List Int,(m.map (g*·)).sum=g*m.sum|[]=>by simp|x::m=>by simp only[ZAN,ZBm];rw[ZmQ g m];grind
theorem Ztp(g:Int)(m:List Int)(i:Nat):(m.map (g*·)).getD i 0=g*m.getD i 0:=by simp only[ZAg,ZAq];cases m[i]?<;>simp
theorem Zha{np:Nat} {es:List Ex} {z t:List Nat} {m:List Int} {d:Int} (h:Za3 np es z t=some (m,d))(X:1<=np)(h5:np<=5)(H:∀x∈es,x.1.length=np)(hz:∀i∈z,i<np)(Z:∀i∈t,i<es.length)(aA:z.length+t.length+1=np):MixOf np es z t m d:=by
 unfold Za3 at h;split at h;·cases h
 rename_i l den Y;split at h;·cases h
 rename_i I;split at h;·cases h
 rename_i s;have J:(Zam np es z t).length=np:=by simp[Zam];omega
 have K:∀row∈Zam np es z t,row.length=(Zam np es z t).length+1:=by
  intro row Q;rw[J];simp only[Zam,ZAX,ZAU,ZA3]at Q;rcases Q with rfl|⟨i,y,rfl⟩|⟨i,y,rfl⟩;·simp
  ·simp[ZaI]
  ·have r:es.getD i default∈es:=by rw[ZAg,ZAm (Z i y)];exact ZAy _
   rw[ZAA,H _ r];rfl
 obtain⟨E,o,p⟩:=ZgU Y Qa K;rw[J]at o p;have hg:0<gcdL 0 (den::l):=ZcU den Qd Qa;obtain⟨-,G⟩:=ZcT (den::l) 0;generalize gcdL 0 (den::l)=g at*;have u:(0:Int)<g:=Qa
 obtain⟨rfl,rfl⟩:_/\_:=by simpa using h
 have S:=Zl4 u (l:=l) fun x r=>G x (by simp[r]);have R:(g:Int)*(den / g)=den:=Zzr (G den Qd);have D:(l.map (· / (g:Int))).length=np:=by simpa using o
 generalize l.map (· / (g:Int))=m at*;generalize den / (g:Int)=d at*;subst S R;have f:∀{a b:Int},(g:Int)*a=g*b->a=b:=fun h=>Int.eq_of_mul_eq_mul_left Qa h;refine⟨D,?_,?_,?_,?_,?_,?_⟩;·exact Int.lt_of_mul_lt_mul_left (a:=(g:Int)) (by simpa using E) Qa
 ·intro x r;simp only[ZzM,ZA3,decide_eq_true_eq,not_exists,not_and]at I;have:=I (g*x) ⟨x,r,rfl⟩;have U:0<=(g:Int)*x:=Qa
  exact Zzk (a:=(g:Int)) (by simpa using U) u
 ·have:=p (List.replicate (np+1) 1) (by simp[Zam]);rw[Zjh _ _ (by rw[o];omega),ZmQ]at this;have N:(List.replicate (np+1) (1:Int)).getD np 0=1:=by simp[ZAg]
  rw[N]at this;exact f Qa
 ·intro i y;have:=p (ZaI (np+1) i) (by simp only[Zam,ZAX,ZAU,ZA3];exact .inr (.inl ⟨i,y,rfl⟩));rw[ZmP (by rw[o];omega),Zg9 _ _ _ Qa,if_neg (by have:=hz i y;omega),Ztp]at this;exact f Qa
 ·intro x r;simp only[ZzM,not_exists,not_and]at s;have:=s x r;simp only[Zy3,decide_eq_false_iff_not,Bool.not_eq_false,Int.not_le,ZzD,decide_eq_true_eq]at this;rw[ZiL]at this;have V:(g:Int)*dotL x.1 m<=g*(x.2*d):=Qn
  exact Zzk V u
 ·intro i y x r;have O:es.getD i default=x:=by rw[ZAg,r];rfl
  have:=p (x.1++[x.2]) (by simp only[Zam,ZAX,ZAU,ZA3];exact .inr (.inr ⟨i,y,by rw[O]⟩));have L:=H x (ZA5 r);rw[Zl1 _ _ _ (by rw[o,L]),ZiL]at this;have N:(x.1++[x.2]).getD np 0=x.2:=by simp[ZAg,<-L]
  rw[N]at this;exact f Qn
theorem Asc.nodup{b:Nat}:∀{l:List Nat} {a:Nat},Asc a b l->l.Nodup|[],_,_=>List.nodup_nil|x::t,a,h=>ZBc.2 ⟨fun d=>by have:=(Asc.lt h.2.2 x d).1;omega,h.2.2.nodup⟩
def inR(k n x:Nat):Bool:=decide (k<=x)&&decide (x<k+n)
theorem Ztq(k n x:Nat):(if inR k (n+1) x=true then 1 else 0)=(if (x==k)=true then 1 else 0)+if inR (k+1) n x=true then 1 else 0:=by simp only[inR,ZyW,decide_eq_true_eq,beq_iff_eq];split<;>split<;>split<;>omega
theorem ZmR(k n:Nat):∀z:List Nat,z.countP (inR k (n+1))=z.count k+z.countP (inR (k+1) n)|[]=>rfl|x::z=>by have:=ZmR k n z;have d:=Ztq k n x;rw[List.countP_cons,List.countP_cons,List.count_cons,this];omega
theorem ZeY(es:List Ex) {z t:List Nat} (hz:z.Nodup):∀(ws:List Int)(k:Nat),(proofRows es z t k ws).length+z.countP (inR k ws.length)=ws.length
 |[],k=>by
  have:z.countP (inR k ([]:List Int).length)=0:=by rw[List.countP_eq_zero];intro x _;simp[inR]
  rw[this];rfl|w::ws,k=>by
  have f:=ZeY es hz ws (k+1) (z:=z) (t:=t);rw[ZAB,ZmR,hz.count];unfold proofRows;by_cases d:k∈z;·simp only[if_pos d];omega
  ·simp only[if_neg d,ZAB];omega
theorem Zji(es:List Ex) {z t:List Nat}:∀(ws:List Int)(d j:Nat)(w:Int),ws[j]?=some w->d+j∉z->Z7 es t (d+j) w∈proofRows es z t d ws
 |[],_,j,w,h,_=>by simp at h|v::ws,d,0,w,h,hz=>by simp at h;subst h;unfold proofRows;rw[if_neg (by simpa using hz)];exact ZAZ ..|v::ws,d,j+1,w,h,hz=>by
  have:=Zji es (t:=t) ws (d+1) j w (by simpa using h) (by rwa [show d+1+j=d+(j+1)by omega]);rw[show d+1+j=d+(j+1)by omega]at this;unfold proofRows;split;·exact this
  ·exact ZAY _ this
theorem ZeZ(es:List Ex) {z t:List Nat}:∀(ws:List Int)(k:Nat),∀row∈proofRows es z t k ws,row.length=t.length+2
 |[],k,row,h=>by cases h|v::ws,k,row,h=>by
  unfold proofRows at h;split at h;·exact ZeZ es ws _ row h
  ·rcases ZAX.1 h with rfl|h;·simp[Z7]
   ·exact ZeZ es ws _ row h
def ZcG(es:List Ex)(l:List Int)(c:Nat):Nat->List Nat->Int|_,[]=>0|k,i::t=>l.getD (k+1) 0*(es.getD i default).1.getD c 0+ZcG es l c (k+1) t
theorem ZmS(es:List Ex)(l:List Int)(c:Nat)(w:Int):∀(t:List Nat)(k:Nat)(l':List Int),l'.length=t.length->(∀j,j<t.length->l'.getD j 0=l.getD (k+1+j) 0)->dotL (t.map (fun i=>-((es.getD i default).1.getD c 0))++[w]) l'=-ZcG es l c k t
 |[],k,l',h,_=>by have:l'=[]:=Zz2 h;subst this;simp[dotL,ZcG]|i::t,k,[],h,_=>by simp at h|i::t,k,x::l',h,hl=>by
  have d:=hl 0 Qd;simp only[ZAf,ZBz]at d;have:=ZmS es l c w t (k+1) l' (by simpa using h) fun j f=>by have:=hl (j+1) (by simpa using f);rw[ZAe]at this;rw[this];congr 1;omega
  simp only[ZAN,ZzR,dotL,ZcG];rw[this,d];grind
theorem Zhb(l:List Int):∀(t:List Nat)(k:Nat)(W:List Int),(putW l k t W).length=W.length|[],_,_=>rfl|i::t,k,W=>by unfold putW;rw[Zhb l t];simp
theorem Ztr(l:List Int):∀(t:List Nat)(k:Nat)(W:List Int)(i:Nat),i∉t->(putW l k t W)[i]?=W[i]?:=by intro t;induction t<;>grind[putW]
theorem ZmT(c:Nat)(v:Int):∀(es:List Ex)(W:List Int)(i:Nat),i<es.length->i<W.length->putsL es (W.set i v) c=putsL es W c+(v-W.getD i 0)*(es.getD i default).1.getD c 0|[],_,_,h,_=>by simp at h|_::_,[],_,_,h=>by simp at h|x::es,w::W,0,_,_=>by simp only[List.set_cons_zero,putsL,ZAf];grind|x::es,w::W,i+1,h,h'=>by simp only[List.set_cons_succ,putsL,ZAe];rw[ZmT c v es W i (by simpa using h) (by simpa using h')];omega
theorem Zjj(es:List Ex)(l:List Int)(c:Nat):∀(t:List Nat)(k:Nat)(W:List Int),W.length=es.length->t.Nodup->(∀i∈t,i<es.length)->(∀i∈t,W.getD i 0=0)->putsL es (putW l k t W) c=putsL es W c+ZcG es l c k t|[],k,W,_,_,_,_=>by simp[putW,ZcG]|i::t,k,W,hW,hnd,ht,h0=>by obtain⟨h,d⟩:=ZBc.1 hnd;unfold putW;rw[Zjj es l c t (k+1) _ (by simpa using hW) d (fun j f=>ht j (ZAY _ f)) (fun j f=>by rw[ZAg,ZAv (by rintro rfl;exact h f),<-ZAg];exact h0 j (ZAY _ f)),ZmT c _ es W i (ht i (ZAZ ..)) (by rw[hW];exact ht i (ZAZ ..)),h0 i (ZAZ ..)];simp only[ZcG,Int.sub_zero];omega
theorem ZmU(c n:Nat):∀es:List Ex,putsL es (List.replicate n 0) c=0:=by induction n with|zero=>intro es;cases es<;>simp[putsL]|succ n ih=>intro es;cases es with|nil=>simp[putsL]|cons x es=>simp only[ZBi,putsL];rw[ih es];simp
theorem ZmV(l:List Int):∀(t:List Nat)(k:Nat)(W:List Int),(∀w∈W,0<=w)->(∀j,j<t.length->0<=l.getD (k+1+j) 0)->∀w∈putW l k t W,0<=w
 |[],_,_,h,_,w,hw=>h w hw|i::t,k,W,h,hl,w,hw=>by
  unfold putW at hw;refine ZmV l t (k+1) _ (fun v d=>?_) (fun j f=>?_) w hw
  ·rcases List.mem_or_eq_of_mem_set d with d|rfl;·exact h v d
   ·exact hl 0 Qd
  ·have:=hl (j+1) (by simpa using f);rwa [show k+1+(j+1)=k+1+1+j by omega]at this
theorem ZmW(es:List Ex)(den lev:Int)(W:List Int):∀(ws:List Int)(d:Nat),Zce es den lev W d ws=true->∀j,j<ws.length->lev<=ws.getD j 0*den+putsL es W (d+j)|[],_,_,j,h=>by simp at h|w::ws,d,h,j,hj=>by unfold Zce at h;simp only[ZyW,decide_eq_true_eq]at h;cases j with|zero=>simpa using h.1|succ j=>have:=ZmW es den lev W ws (d+1) h.2 j (by simpa using hj);rwa [show d+1+j=d+(j+1)by omega]at this
structure PrfOf (es:List Ex)(ws:List Int)(z t:List Nat)(p:Prf):Prop where
 len:p.W.length=es.length
 den:0<p.den
 nn:∀w∈p.W,0<=w
 lev:∀k,k<ws.length->p.lev<=ws.getD k 0*p.den+putsL es p.W k
 eq:∀k,k<ws.length->k∉z->p.lev=ws.getD k 0*p.den+putsL es p.W k
 sup:∀i w,p.W[i]?=some w->w≠0->i∈t
theorem Zts{es:List Ex} {ws:List Int} {z t:List Nat} {p:Prf} (h:Za6 es ws z t=some p)(h5:ws.length<=5)(hz:∀i∈z,i<ws.length)(aB:z.Nodup)(ht:∀i∈t,i<es.length)(aA:t.Nodup)(aD:z.length+t.length+1=ws.length):PrfOf es ws z t p:=by
 unfold Za6 at h;split at h;·cases h
 rename_i l den hs;split at h;·cases h
 rename_i I;dsimp only at h;split at h;case isFalse=>cases h
 rename_i y;have Q:(proofRows es z t 0 ws).length=t.length+1:=by
  have h1:=ZeY es (t:=t) aB ws 0;have h2:z.countP (inR 0 ws.length)=z.length:=by rw[List.countP_eq_length];intro x hx;have:=hz x hx;simp[inR];omega
  omega
 obtain⟨L,m,o⟩:=ZgU hs Qa (fun aC J=>by rw[Q,ZeZ es ws 0 aC J]);rw[Q]at m o;have f:∀c,putsL es (putW l 0 t (List.replicate es.length 0)) c=ZcG es l c 0 t:=fun c=>by rw[Zjj es l c t 0 _ Qd aA ht (fun i Y=>by simp[ZAg,ZAt];split<;>rfl),ZmU];omega
 have U:(putW l 0 t (List.replicate es.length 0)).length=es.length:=by rw[Zhb];simp
 have K:∀w∈putW l 0 t (List.replicate es.length 0),0<=w:=by refine ZmV l t 0 _ (fun w r=>by rw[Zz3 r];exact Zzm _) (fun j hj=>?_);simp only[ZzM,ZA8,decide_eq_true_eq,not_exists,not_and]at I;have:=I j hj;rw[show 0+1+j=j+1 by omega];omega
 have X:∀i w,(putW l 0 t (List.replicate es.length 0))[i]?=some w->w≠0->i∈t:=fun i w r S=>by
  by_cases Y:i∈t;·exact Y
  ·rw[Ztr l t 0 _ i Y,ZAt]at r;split at r;·cases r;exact absurd rfl S
   ·cases r
 have N:∀k,k<ws.length->k∉z->l.getD 0 0=ws.getD k 0*den+ZcG es l k 0 t:=fun k O E=>by have hm:=Zji es (t:=t) ws 0 k (ws.getD k 0) (by rw[ZAg,ZAm O];rfl) (by simpa using E);have J:=o _ hm;simp only[ZB1]at J;unfold Z7 at J;cases l with|nil=>simp at m|cons x l=>
   simp only[dotL]at J;have Z:=ZmS es (x::l) k (ws.getD k 0) t 0 l (by simpa using m) fun j hj=>by rw[show 0+1+j=j+1 by omega,ZAe]
   rw[Z]at J;have e:(1::(t.map (fun i=>-((es.getD i default).1.getD k 0))++[ws.getD k 0])).getD (t.length+1) 0=ws.getD k 0:=by rw[ZAe,ZAg,ZAi Qd];simp
   rw[e]at J;simp only[ZAf];omega
 have H:=ZmW _ _ _ _ _ _ y;simp only[ZB1,f]at H;have hg:0<gcdL 0 (den::l.getD 0 0::putW l 0 t (List.replicate es.length 0)):=ZcU den Qd Qa;obtain⟨-,s⟩:=ZcT (den::l.getD 0 0::putW l 0 t (List.replicate es.length 0)) 0;simp only[<-f]at H N;generalize gcdL 0 (den::l.getD 0 0::putW l 0 t (List.replicate es.length 0))=g at*;generalize putW l 0 t (List.replicate es.length 0)=W at*;generalize l.getD 0 0=u at*;have D:(0:Int)<g:=Qa
 obtain rfl:_=p:=by simpa using h
 have el:=Zl4 D (l:=W) fun x hx=>s x (by simp[hx]);have ed:(g:Int)*(den / g)=den:=Zzr (s den Qd);have ev:(g:Int)*(u / g)=u:=Zzr (s u Qd);have G:(W.map (· / (g:Int))).length=es.length:=by simpa using U
 clear h s hs I o m f y;generalize W.map (· / (g:Int))=V at*;generalize den / (g:Int)=d at*;generalize u / (g:Int)=v at*;subst el ed ev;refine⟨G,Int.lt_of_mul_lt_mul_left (a:=(g:Int)) (by simpa using L) Qa,?_,?_,?_,?_⟩;·intro w r;have:=K (g*w) (ZA3.2 ⟨w,r,rfl⟩);exact Zzk (a:=(g:Int)) (by simpa using this) D
 ·intro k O;have:=H k O;rw[ZiM]at this;exact Zzk (a:=(g:Int)) Qn D
 ·intro k O E;have:=N k O E;rw[ZiM]at this;exact Int.eq_of_mul_eq_mul_left (a:=(g:Int)) Qa Qn
 ·intro i w r S;refine X i (g*w) (by rw[ZAq,r];rfl) (fun R=>?_);rcases Int.mul_eq_zero.1 R with R|R;·omega
  ·exact S R
end Go.Proofs
namespace Go.Proofs
open Tryz
open Go.RowKit
theorem Zjk{es:List En} {np:Nat} (h:RightE es np)(i c:Nat):(((exs es).getD i default).1.getD c 0).natAbs<=20:=by rw[ZAg (l:=exs es)];cases d:(exs es)[i]? with|none=>simp[default,instInhabitedProd]|some x=>exact(h.exs_co x (ZA5 d)).get c
theorem Zhc{es:List En} {np:Nat} (h:RightE es np) {z t:List Nat}:∀(ws:List Int)(k:Nat),ZE 400 ws->ZcA (proofRows (exs es) z t k ws)
 |[],_,_,row,f=>by cases f|w::ws,k,hs,row,f=>by
  unfold proofRows at f;have m:=Zhc h (z:=z) (t:=t) ws (k+1) fun x d=>hs x (by simp[d]);split at f;·exact m row f
  ·rcases ZAX.1 f with rfl|f
   ·intro x d;unfold Z7 at d;rcases ZAX.1 d with rfl|d;·decide
    ·rcases ZAU.1 d with d|d;·obtain⟨i,-,rfl⟩:=ZA3.1 d;rw[Int.natAbs_neg];exact ZBG (Zjk h i k) Qc
     ·rw[ZA9]at d;subst d;exact hs x Qd
   ·exact m row f
def Ze0(q:Option Prf)(d f:Nat)(e:Ending)(w':World):Prop:=match q with|none=>e=.returned (.tuple #[.agg #[(0:Int),(0:Int),.slice none 0 0],false])|some p=>∃A c,e=.returned (.tuple #[.agg #[p.den,p.lev,.slice A d c],true])/\w'.ownsRow f 3 1 (.slice A d c) d (p.W.map (Value.int .i64))
theorem Ztt{P:Program} {f:Operand->Value} {o:Oper} {t:TypeId} {p q:Operand} {v r:Value} {x d:World} (i:o.op=.makeSlice t p q)(hp:f p=v)(hq:f q=v)(h:(Instr.makeSlice t v v).run P x=.ok r d):(execOp f o).run P x=.ok (.value r) d:=by unfold execOp;rw[i];simp only[hp,hq,Sem.run_bind,h,Result.andThen_ok,Sem.run_pure]
theorem _root_.Qw{P:Prop}(h:P:=by intro a b;simp only[ZAX,ZBe,or_false]at b;rcases b with rfl|rfl|rfl<;>(intro c d;kernel_rfl)):P:=h
theorem _root_.Qx{P:Prop}(h:P:=by intro a b;simp only[ZAX,ZBe,or_false]at b;rcases b with rfl|rfl|rfl|rfl<;>(intro c d;kernel_rfl)):P:=h
theorem Ztu(pA eA tA wA:Option Addr)(zv:Value)(np pc d ec tn tc wc:Nat)(es:List En)(ws:List Int)(z t:List Nat)(w:World)(hR:RightE es np)(hE:Zas w eA es)(eK:es.length=d)(hT:At 1 Zc w tA (ZN t))(eY:t.length=tn)(hW:At 1 Zc w wA ws)(fD:ws.length=np)(h5:np<=5)(fF:ZE 400 ws)(hz:∀i∈z,i<np)(fJ:z.Nodup)(ht:∀i∈t,i<d)(cX:t.Nodup)(fL:z.length+t.length+1=np)(fK:zv.oneCell'=true):Calls prog 60 #[.agg (Z3 (.slice pA np pc) (.slice eA d ec) zv (.slice tA tn tc) z t).toArray,.slice wA np wc] w fun e w'=>Ze0 (Za6 (exs es) ws z t) d w.heap.size e w'/\QB w w':=by
 obtain⟨BA,dB⟩:=Qu ((Z3 (.slice pA np pc) (.slice eA d ec) zv (.slice tA tn tc) z t).toArray);have fO:=hR.n8;have fT:=ZzG fun W (hb:QB w W) k (hk:k<tn)=>Zan (hT.below hb) (k:=k) (by rw[ZcD];omega);have fW:=ZzG fun W (hb:QB w W) k (hk:k<np)=>Zan (hW.below hb) (k:=k) Qa;have fE:=ZzG fun W (hb:QB w W) i c (hi:i<d)(hc:c<np)=>(by
  have dJ:i<es.length:=Qa
  obtain⟨b,o,hA,bI,gA⟩:=(hE.below hb).1 i _ (ZAm dJ);have hx:=ZAy dJ;obtain⟨h1,h2,-⟩:=hR.co _ hx;obtain⟨b2,o2,hA2,eP,fZ⟩:=Zan ((hE.below hb).2 _ hx) (k:=c) Qa;refine⟨es[i],b,o,b2,o2,hA,bI,eP,h1,?_,fZ,h2.get c,ZdH (ZAm dJ)⟩;have:=gA 1 _ rfl;rw[hA2]at this;exact this:∃x:En,∃b o b2 o2,eA=some ⟨b,o,none⟩/\b<W.heap.size/\b2<W.heap.size/\x.co.length=np/\W.cell? ⟨b,o+i*3+1,none⟩=some (.slice (some ⟨b2,o2,none⟩) x.co.length x.c)/\W.cell? ⟨b2,o2+c,none⟩=some (.int .i64 (x.co.getD c 0))/\(x.co.getD c 0).natAbs<=20/\(exs es).getD i default=(x.co,x.mo));have cF:=ZzG hR;have fN:=ZzG hE;have J:=ZzG eK;have Z:=ZzG eY;have aD:=ZzG fD;have cA:=ZzG fF;have gP:=ZzG hz;have eX:=ZzG ht;have cZ:=ZzG fJ;have gK:=ZzG cX;have fM:=ZzG fL;have gW:=ZzG fK;have aE:=ZzG dB;have hU:tn<=4:=Qa
 rw[dB];obtain⟨i0,hi,dU,dV,dW⟩:=info_parts info3;obtain⟨i1,hj,gD,gE,cH⟩:=info_parts info31;obtain⟨X,hX⟩:=Qu (exs es);have aS:=ZzG hX;rw[hX]at fE |-;clear hR hE eK eY fD fF hz ht fJ cX fL fK dB hT hW hX;go_enter func60,ntmps60;go_wp2;go_loopw [6,24] (fun v6 i wr=>∃(k:Nat)(xs:List IR),k<=np/\i=.int .i64 k/\Hid (RowsOwn wr (w.heap.size+2) v6 xs/\xs.map IR.l=proofRows X z t 0 (ws.take k))/\wr.heap[w.heap.size]?=some (.cells BA 116)/\wr.heap[w.heap.size+1]?=some (.cells #[(0:Int),(0:Int),.slice none 0 0] 35)/\QB w wr)(fun _ i _=>np-(intOf i).toNat);case atStart=>exact⟨0,[],ZB2 _,rfl,⟨RowsOwn.nil _ _,by simp[proofRows]⟩,Qs,Qs,Qi⟩
 case round=>
  obtain⟨wo,gM⟩:∃wo,wo=wr:=⟨_,rfl⟩;subst gM;obtain⟨k,xs,hk,rfl,E,M0,M1,aU⟩:=hrel;have s0:=ZI M0;have s1:=ZI M1;have MB:wo.heap[w.heap.size]?=some (.cells (Z3 (.slice pA np pc) (.slice eA d ec) zv (.slice tA tn tc) z t).toArray 116 (0,0)):=by rw[aE.out];exact M0
  have bB:=ZaQ MB (k:=1) rfl;have aN:=ZaQ MB (k:=3) rfl;by_cases bI:k<np
  ·have eM:(k:Int)<(np:Int):=Qa
   have hL:(k:Int)<5:=Qa
   obtain⟨bw,ow,rfl,eJ,cw⟩:=fW.out wo aU k bI;obtain⟨u,N⟩:∃u,ws[k]?=some u:=⟨_,ZAm (by rw[aD.out];exact bI)⟩;have eZ:ws.getD k 0=u:=by rw[ZAg,N];rfl
   rw[eZ]at cw;have cz:=ZaQ MB (Zjd (.slice pA np pc) (.slice eA d ec) zv (.slice tA tn tc) z t k Qa);have cL:=ZzG (show proofRows X z t 0 (ws.take (k+1))=proofRows X z t 0 (ws.take k)++if k∈z then []else [Z7 X t k u]by rw[ZBn,N];have:=ZmF X z t (ws.take k) 0 u;rw[ZAH,ZBN (by rw[aD.out];omega),ZB1]at this;exact this);have gO:Hid (xs.length<=k):=ZzG (by have h1:=congrArg List.length E.out.2;rw[ZAD]at h1;have h2:=ZeY X (t:=t) cZ.out (ws.take k) 0;rw[ZAH,ZBN (by rw[aD.out];omega)]at h2;omega);clear N eZ MB;by_cases bH:k∈z
   ·have bU:decide (k∈z)=true:=by simpa using bH
    rw[bU]at cz;have cK:=ZzG (show RowsOwn wo (w.heap.size+2) u6 xs/\xs.map IR.l=proofRows X z t 0 (ws.take (k+1))from⟨E.out.1,by rw[cL.out,if_pos bH,ZzO];exact E.out.2⟩);clear bH E cL;go_wp2;go_roundw;case rel=>exact⟨k+1,xs,Qa,Qj,cK.out,M0,M1,aU⟩
    case measure=>exact Qv
   ·have bU:decide (k∈z)=false:=by simpa using bH
    rw[bU]at cz;have cK:=ZzG (show proofRows X z t 0 (ws.take (k+1))=xs.map IR.l++[Z7 X t k u]from by rw[cL.out,if_neg bH,E.out.2]);have aM:=ZzG E.out.1;clear bH E cL;go_wp2;go_loopw [9,37] (fun v9 j wi=>∃q:Nat,q<=tn/\j=.int .i64 q/\wi.ownsRow wo.heap.size 3 1 v9 (q+1) ((Zei X t k q).map (Value.int .i64))/\QB wo wi/\wo.heap.size<wi.heap.size) (fun _ j _=>tn-(intOf j).toNat);case atStart=>
     refine⟨0,ZB2 _,rfl,?_,?_,?_⟩;·exact⟨rfl,.inr ⟨wo.heap.size,1,#[.int .i64 1],rfl,ZBF _,ZA _ _ rfl,ZBF _,Qc,rfl,rfl⟩⟩
     ·exact ZC _ _
     ·simp
    case round=>
     obtain⟨q,hq,rfl,aH,bN,hP⟩:=hrel;obtain⟨A9,c9,rfl⟩:=Z2 aH;have N0:=(bN.block _ s0).trans M0;have N1:=(bN.block _ s1).trans M1;have NB:wr.heap[w.heap.size]?=some (.cells (Z3 (.slice pA np pc) (.slice eA d ec) zv (.slice tA tn tc) z t).toArray 116 (0,0)):=by rw[aE.out];exact N0
     have dX:=ZaQ NB (k:=1) rfl;have O:=via aU bN;have t0:=ZI N0;have r:=ZzG aH;clear aH NB;by_cases aR:q<tn
     ·have gH:(q:Int)<(tn:Int):=Qa
      obtain⟨bt,ot,rfl,fY,ct⟩:=fT.out wr O q aR;obtain⟨i,aL⟩:∃i,t[q]?=some i:=⟨_,ZAm (by rw[Z.out];exact aR)⟩;have bT:(ZN t).getD q 0=(i:Int):=by rw[ZAg,ZcE aL];rfl
      rw[bT]at ct;have dK:=eX.out i (ZA5 aL);have G:=ZzG (Ztd (es:=X) (c:=k) aL);have gC:(i:Int)<(d:Int):=Qa
      obtain⟨x,be,oe,b2,o2,rfl,hH,aT,cN,c1,c2,gJ,hg⟩:=fE.out wr O i k dK bI;have hM:(k:Int)<(x.co.length:Int):=Qa
      rw[hg]at G;obtain⟨y,hy⟩:=Qu (x.co.getD k 0);dsimp only at G;rw[hy]at c2 gJ G;have hY:IntKind.i64.wrap (-y)=-y:=ZzE _ Qa;generalize x.co.length=L at*;clear bT aL hy hg;go_wp2_with (at_builtin;refine wpList_append_own _ rfl _ _ 31 rfl wo.heap.size 3 i0 (.int .i64 0) 1 8 underlying31 hi dU dV dW rfl Qc _ _ _ rfl (r.out.alloc _) ⟨wr.heap.size,0,none⟩ 1 1 [.int .i64 (-y)] rfl rfl ?c1 ?c2 ?c3 ?c4 ?c5 ?_);case c1=>exact Zbd _ [.int .i64 (-y)] _ Qd
      case c2=>intro u N;simp at N;subst N;rfl
      case c3=>unfold maxLen;omega
      case c4=>omega
      case c5=>simp;omega
      intro v' w3 aB bG _;have aK:QB wo w3:=ZT (via bN (ZC _ _)) bG fun b e=>(r.out.lt b e).1;have eW:wo.heap.size<w3.heap.size:=by have:=bG.size;simp at this;omega
      have I:=ZzG (show w3.ownsRow wo.heap.size 3 1 v' (q+1+1) ((Zei X t k (q+1)).map (Value.int .i64))from by rw[G.out,ZAL];exact aB);clear aB bG r G;go_wp2;go_roundw;case rel=>exact⟨q+1,Qa,Qj,I.out,aK,eW⟩
      case measure=>exact Qv
     ·obtain rfl:q=tn:=Qa
      clear dX aR;go_wp2_with (at_builtin;refine wpList_append_lies _ rfl _ _ 31 rfl wo.heap.size 3 i0 (.int .i64 0) 1 8 underlying31 hi dU dV dW rfl Qc _ _ _ rfl (r.out.alloc _) ⟨wr.heap.size,0,none⟩ 1 1 [.int .i64 u] rfl rfl ?c1 ?c2 Qc ?c3 ?c4 ?c5 (wr.heap.size+1) ?c6 ?_);case c1=>exact Zbd _ [.int .i64 u] _ Qd
      case c2=>intro u N;simp at N;subst N;rfl
      case c3=>unfold maxLen;omega
      case c4=>omega
      case c5=>simp;omega
      case c6=>simp
      intro g9 aI w3 aB bG eS eQ;have aK:QB wo w3:=ZT (via bN (ZC _ _)) bG fun b e=>(r.out.lt b e).1;have fU:=(aB.lt g9 rfl).1;have aJ:=ZzG (aM.out.below aK);have fI:=ZzG (show At 1 Zc w3 (some ⟨g9,0,none⟩) (Z7 X t k u)from ZaA (base:=wo.heap.size) (n:=q+1+1) (e:=3) (c:=aI) (by rw[<-Zte,ZAL,Z.out];exact aB));have cJ:=ZzG (show (Z7 X t k u).length=q+1+1 from by simp[Z7,Z.out]);have eR:=ZzG (show some g9≠u6.ownBlock from fun e=>by have:=(aM.out.own.lt g9 e.symm).2;omega);have gU:wo.heap.size<w3.heap.size:=Nat.lt_of_le_of_lt fU eQ;have bQ:=via aU aK;have P0:=(aK.block _ s0).trans M0;have P1:=(aK.block _ s1).trans M1;obtain⟨A6,c6,rfl⟩:=Z2 aM.out.own;clear aB bG eS r N0 N1;have gV:=gO.out;go_wp2_with (at_builtin;refine wpList_append_lies _ rfl _ _ 148 rfl (w.heap.size+2) 31 i1 (.slice none 0 0) 1 24 underlying148 hj gD gE cH rfl Qc _ _ _ rfl (aJ.out.own.alloc _) ⟨w3.heap.size,0,none⟩ 1 1 [.slice (some g9) (q+1+1) aI] rfl rfl ?c1 ?c2 Qc ?c3 ?c4 ?c5 (w3.heap.size+1) ?c6 ?_);case c1=>exact Zbd _ [.slice (some g9) (q+1+1) aI] _ Qd
      case c2=>intro u N;simp at N;subst N;rfl
      case c3=>unfold maxLen;omega
      case c4=>omega
      case c5=>simp;omega
      case c6=>simp
      intro g gZ w4 I aQ cV gR;have eF:=ZzG (RowsOwn.push (x:=⟨some ⟨g9,0,none⟩,aI,Z7 X t k u⟩) aJ.out (ZC w3 _) rfl (fI.out.below (ZC w3 _)) Qg Qk eR.out aQ (by show w4.ownsRow _ 31 1 _ _ (_++[Value.slice (some g9) (Z7 X t k u).length aI]);rw[cJ.out];exact I) (by simpa using cV));have aC:QB w w4:=ZT (via bQ (ZC _ _)) aQ fun b e=>by have:=(aJ.out.own.lt b e).1;omega
      have Q0:=Zaz aQ (Zz P0 _) (Zay aJ.out.own Qa);have Q1:=Zaz aQ (Zz P1 _) (Zay aJ.out.own Qa);have S:=ZzG (show (xs++[(⟨some ⟨g9,0,none⟩,aI,Z7 X t k u⟩:IR)]).map IR.l=proofRows X z t 0 (ws.take (k+1))from by rw[cK.out,ZAL];rfl);clear I aQ cV aJ fI cK P0 P1;go_wp2;go_roundw;case rel=>exact⟨k+1,_,Qa,Qj,⟨eF.out,S.out⟩,Q0,Q1,aC⟩
      case measure=>exact Qv
  ·obtain rfl:np=k:=Qa
   have aO:ws.take np=ws:=by rw[<-aD.out,ZBo]
   obtain⟨dP,S⟩:=E.out;rw[aO]at S;have cN:xs.length=tn+1:=by
    have h1:=congrArg List.length S;rw[ZAD]at h1;have h2:=ZeY X (t:=t) cZ.out ws 0;have h3:z.countP (inR 0 ws.length)=z.length:=by rw[List.countP_eq_length];intro x hx;have:=gP.out x hx;have:=aD.out;simp[inR];omega
    have:=fM.out;have:=aD.out;have:=Z.out;omega
   obtain⟨A6,c6,rfl⟩:=Z2 dP.own;have hS:=ZzG (Zmb A6 xs c6 wo dP.rowsAt (fun x hx=>by have:=ZeZ X (z:=z) (t:=t) ws 0 x.l (by rw[<-S];exact ZA3.2 ⟨x,hx,rfl⟩);have:=Z.out;omega) Qa Qa (by rw[S,<-aS.out];exact Zhc cF.out ws 0 cA.out));rw[S]at hS;rw[cN]at hS |-;have bY:=ZzG S;have cY:=ZzG cN;obtain⟨sl,dS⟩:=Qu (Za2 (proofRows X z t 0 ws));have aZ:=ZzG dS;unfold ZeS at hS;rw[dS]at hS;clear dS dP E aO bI MB bB aN cN S;rcases sl with _|⟨l,den⟩
   ·dsimp only at hS;have aG:=ZzG (show Za6 X ws z t=none by unfold Za6;rw[aZ.out]);go_wp2_with (go_at_call 85;refine hS.out.mono ?_;rintro e w2 ⟨rfl,aT⟩;have N1:=Zx aT M1;have C1:=bk3 N1;have O:=via aU aT);refine bodyPost_ret (v:=.tuple #[.agg #[(0:Int),(0:Int),.slice none 0 0],false]) ?_ rfl ⟨?_,Qi⟩;·simp[results,results60,go_sem,C1]
    ·unfold Ze0;rw[aG.out]
   ·dsimp only at hS;have cJ:(proofRows X z t 0 ws).length=tn+1:=by rw[<-bY.out,ZAD];exact cY.out
    obtain⟨cI,dH,hJ,eO⟩:=Zi1 aZ.out Qa (by rw[<-aS.out];exact Zhc cF.out ws 0 cA.out);rw[cJ]at cI;rw[cI]at hS;have cT:=ZzG cI;have bX:=ZzG eO;clear eO cJ cI;go_wp2_with (go_at_call 85;refine hS.out.mono ?_;rintro e w2 ⟨⟨v,rfl,aH⟩,aT⟩;obtain⟨gX,gY,rfl⟩:=Z2 aH;have N0:=Zx aT M0;have N1:=Zx aT M1;have C1:=bk3 N1;have O:=via aU aT;have r:=ZzG aH;clear aH);have NB:w2.heap[w.heap.size]?=some (.cells (Z3 (.slice pA np pc) (.slice eA d ec) zv (.slice tA tn tc) z t).toArray 116 (0,0)):=by rw[aE.out];exact N0
    have bB:=ZaQ NB (k:=1) rfl;have aN:=ZaQ NB (k:=3) rfl;have cD:=ZaQ NB (k:=0) rfl;obtain⟨lev,bV⟩:=Qu (l.getD 0 0);have cS:=ZaA r.out;obtain⟨bJ,hA12,fX,bL,c0⟩:=ZcW r.out (k:=0) (u:=.int .i64 lev) (by rw[<-bV];cases l with|nil=>have:=cT.out;simp at this|cons x l=>rfl);subst hA12;have aW:=ZzG bV;have dM:=ZzG cS;clear hS bV cS NB;have gT:=ZI N1;apply Ztf w 8 10 11 d (.cells (ZaL (List.replicate d 0)) 3) (.cells #[(0:Int),(0:Int),.slice none 0 0] 35) (fun h=>.cells #[den,lev,.slice (some h.b) d d] 35);case hm=>kernel_rfl
    case hB=>kernel_rfl
    case hB'=>intro g;kernel_rfl
    case hS|hN=>kernel_rfl
    case hne=>decide
    case hkd=>kernel_rfl
    case hcl=>intro L _ o U h;simp at U;subst U;simp[Region.binds]at h;exact⟨by simp[h],by simp[h]⟩
    case hw=>exact O
    case hq=>
     intro g u N bS bF fV;have d0:=Zx N N0;have NB:u.heap[w.heap.size]?=some (.cells (Z3 (.slice pA np pc) (.slice eA d ec) zv (.slice tA tn tc) z t).toArray 116 (0,0)):=by rw[aE.out];exact d0
     have e1:=ZaQ NB (k:=1) rfl;have e2:=(N.cell (show (⟨bJ,0,none⟩:Addr).block<_ from bL)).trans c0;have z1:bJ<u.heap.size:=ZBJ bL N.size;have z2:w.heap.size<u.heap.size:=ZI d0;simp only[mixL,mkMAS,yieldsC,ZzS,ZzV,Nat.reduceAdd,Nat.reduceBEq,ZB1,Zy6,Zy8,Zy1,Zy9,Zy0,if_true,if_false,Zy7,Nat.reduceEqDiff];repeat (go_big_quiet_step (fail))
     exact wpQuiet_nil rfl
    case hal1=>intro o U g x bF;simp only[ZAj,ZAk,ZCa]at U;subst U;refine Ztt (v:=.int .i64 d) rfl Qb Qb ?_;exact ZdG d (by have:=J.out;omega) x
    case hal2=>intro o U g x;simp only[ZAj,ZAk,ZCa]at U;subst U;kernel_rfl
    case hind=>exact Qw
    case hs=>intro o U g x hx hz;simp only[ZAj,ZAk,ZCa]at U;subst U;exact⟨_,Zef rfl rfl rfl rfl Qb Qb Qb hz,(((OnlyB.refl _ _).set _ _).set _ _).set _ _,ZL (ZL (ZL hz _ rfl) _ rfl) _ rfl⟩
    case hend=>
    intro g u dA dY aY N bQ E1 E2;obtain⟨R,hR⟩:=Qu ((g 8).b);obtain⟨Q,hQ⟩:=Qu ((g 10).b);rw[hR]at dA aY E1 E2;rw[hQ]at dY aY E2;have hI:Hid (ZM 3 u R (List.replicate d 0)):=ZzG E1;rw[hR,hQ];clear hR hQ C1 bB aN cD c0 E1 bQ M0 M1 g aU bY cY;have P0:=Zx N N0;have NB:u.heap[w.heap.size]?=some (.cells (Z3 (.slice pA np pc) (.slice eA d ec) zv (.slice tA tn tc) z t).toArray 116 (0,0)):=by rw[aE.out];exact P0
    have aN:=ZaQ NB (k:=3) rfl;clear NB P0;go_wp2;go_loopw [86] (fun i wr=>∃q:Nat,q<=tn/\i=.int .i64 q/\Hid (ZM 3 wr R (putW l 0 (t.take q) (List.replicate d 0)))/\wr.heap[Q]?=some (.cells #[den,lev,.slice (some R) d d] 35)/\Hid (∀j,j<q->¬l.getD (j+1) 0<0)/\QB w2 wr) (fun i _=>tn-(intOf i).toNat);case atStart=>exact⟨0,ZB2 _,rfl,hI.out,E2,fun j hj=>Qa,N⟩
    case round=>
     clear hI E2 aN;obtain⟨q,hq,rfl,H,aA,dO,K⟩:=hrel;have P0:=Zx K N0;have P1:=Zx K N1;have NB:wr.heap[w.heap.size]?=some (.cells (Z3 (.slice pA np pc) (.slice eA d ec) zv (.slice tA tn tc) z t).toArray 116 (0,0)):=by rw[aE.out];exact P0
     have aN:=ZaQ NB (k:=3) rfl;have D:=bk3 aA;have aC:=via O K;clear NB;by_cases aR:q<tn
     ·have gH:(q:Int)<(tn:Int):=Qa
      obtain⟨bt,ot,rfl,fY,ct⟩:=fT.out wr aC q aR;obtain⟨i,aL⟩:∃i,t[q]?=some i:=⟨_,ZAm (by rw[Z.out];exact aR)⟩;have bT:(ZN t).getD q 0=(i:Int):=by rw[ZAg,ZcE aL];rfl
      rw[bT]at ct;have dK:=eX.out i (ZA5 aL);have gC:(i:Int)<(d:Int):=Qa
      have G:=ZzG (Zsr l (W:=List.replicate d 0) aL);obtain⟨b9,o9,e9,-,cl⟩:=Zan (dM.out.below K) (k:=q+1) (by rw[cT.out];omega);cases e9;rw[ZB1]at cl;obtain⟨x,hx⟩:=Qu (l.getD (q+1) 0);rw[hx]at cl G;have fG:=ZzG hx;obtain⟨V,hV⟩:=Qu (putW l 0 (t.take q) (List.replicate d 0));rw[hV]at H G;have eG:V.length=d:=by rw[<-hV,Zhb,List.length_replicate]
      have ci:=H.out.loadD (k:=i) Qa;have fi:=H.out.frozen i;have eV:=H.out.size;have eT:bJ<wr.heap.size:=ZBJ bL K.size;have eU:=ZI aA;have cM:IntKind.i64.wrap ((q:Int)+1)=(q:Int)+1:=ZzE _ Qa;have eH:=ZzG eG;clear bT aL hx hV eG;go_wp2;refine ZaK w 9 Qb Qb Qi ?_;intro bS bF;simp only[ZBr,ZBt,ZzZ,Zz0];repeat (go_big_quiet_step (fail))
      refine wpQuiet_nil ?_;intro wb m aX dR;clear bS bF;have bE:=ZzG (H.out.below m);have dD:=Zx m aA;have R1:=Zx m P1;have C1:=bk3 R1;have bO:=via K m;have hC:=bE.out.loadD (k:=i) (by rw[eH.out];exact dK);have hG:=bE.out.frozen i;have hD:=(m.cell (show (⟨bJ,q+1,none⟩:Addr).block<_ from eT)).trans cl;have gS:bJ≠R:=Qa
      have hO:w.heap.size+1≠R:=Qa
      have fQ:=ZzG (show ZM 3 (wb.setCell ⟨R,i,none⟩ (.int .i64 x)) R (putW l 0 (t.take (q+1)) (List.replicate d 0))from by have:=bE.out.store i x;rwa [<-G.out]at this);clear H aA P0 P1 D ci fi cl aN ct bE;by_cases fH:x<0
      ·have aG:=ZzG (show Za6 X ws z t=none by unfold Za6;simp only[aZ.out];rw[if_pos (Zss (k:=q) (by rw[Z.out];exact aR) (by rw[fG.out];exact fH))]);go_wp2;refine bodyPost_ret (v:=.tuple #[.agg #[(0:Int),(0:Int),.slice none 0 0],false]) ?_ rfl ⟨?_,?_⟩;·refine ZaG (p:=4) (u:=5) (ad:=⟨w.heap.size+1,0,none⟩) (v:=.agg #[(0:Int),(0:Int),.slice none 0 0]) rfl Qe (Zag (T:=35) (cs:=[.int .i64 0,.int .i64 0,.slice none 0 0]) Qb Qb ?_);exact ZL (ZL (ZL (ZB R1 (by first|omega|(dsimp only;omega)) _) _ rfl) _ rfl) _ rfl
       ·unfold Ze0;rw[aG.out]
       ·first|go_grown|(repeat' (first|exact aX|refine ZyV ?_ Qg _))
      ·go_wp2;go_roundw;case rel=>exact⟨q+1,Qa,Qj,fQ.out,ZB dD (by first|omega|(dsimp only;omega)) _,(fun j hj=>by
        by_cases gG:j=q;·rw[gG,fG.out];exact fH
        ·have:=dO.out j Qa;omega),bO.setCell (by first|omega|(dsimp only;omega)) _⟩
       case measure=>exact Qv
     ·obtain rfl:tn=q:=Qa
      have aO:t.take tn=t:=by rw[<-Z.out,ZBo]
      rw[aO]at H;obtain⟨W,hW⟩:=Qu (putW l 0 t (List.replicate d 0));rw[hW]at H;have aF:=ZzG (show W.length=d by rw[<-hW,Zhb,List.length_replicate]);have cG:=ZzG (show ZE 1228800000000000 W by rw[<-hW];exact Zmc bX.out t 0 _ fun x hx=>by rw[Zz3 hx];decide);have bZ:=ZzG (show Za6 X ws z t=if Zce X den lev W 0 ws=true then some {den:=den / (gcdL 0 (den::lev::W):Int),lev:=lev / (gcdL 0 (den::lev::W):Int),W:=W.map (· / (gcdL 0 (den::lev::W):Int))} else none by
       have fS:X.length=d:=by rw[<-aS.out,Z8];exact J.out
       unfold Za6;simp only[aZ.out];rw[if_neg (by rw[Zst (by rw[Z.out];exact dO.out)];decide),fS,hW,aW.out]);clear aR aO hW dO aN D P0 P1;go_wp2;go_loopw [110] (fun i wr=>∃k:Nat,k<=np/\i=.int .i64 k/\Hid (ZM 3 wr R W)/\wr.heap[Q]?=some (.cells #[den,lev,.slice (some R) d d] 35)/\Hid (∀j,j<k->¬(ws.getD j 0*den+putsL X W j<lev))/\QB w2 wr)(fun i _=>np-(intOf i).toNat);case atStart=>exact⟨0,ZB2 _,rfl,H.out,aA,fun j hj=>Qa,K⟩
      case round=>
       clear H aA K aC;obtain⟨k,hk,rfl,H,aA,dN,K⟩:=hrel;have P0:=Zx K N0;have P1:=Zx K N1;have NB:wr.heap[w.heap.size]?=some (.cells (Z3 (.slice pA np pc) (.slice eA d ec) zv (.slice tA tn tc) z t).toArray 116 (0,0)):=by rw[aE.out];exact P0
       have cD:=ZaQ NB (k:=0) rfl;have bB:=ZaQ NB (k:=1) rfl;have D:=bk3 aA;have aC:=via O K;have eV:=H.out.size;have eU:=ZI aA;have dQ:=ZI P0;clear NB;by_cases aV:k<np
       ·have eM:(k:Int)<(np:Int):=Qa
        obtain⟨bw,ow,rfl,eJ,cw⟩:=fW.out wr aC k aV;obtain⟨u,N⟩:=Qu (ws.getD k 0);rw[N]at cw;obtain⟨T,hT⟩:=Qu (putsL X W k);have eC:=ZzG fun(x:Grew wr)=>(by have:=Zl9 pA eA (some ⟨R,0,none⟩) np pc ec d np es W den lev k x.val cF.out (fN.out.below (via aC x.ok)) (H.out.below x.ok).at' (by rw[aF.out,J.out]) aV (fun y hy=>ZBG (cG.out y hy) Qc);rw[J.out,aF.out,aS.out,hT]at this;exact this:Calls prog 72 #[.agg #[(.slice pA np pc),(.slice eA d ec)],.agg #[den,lev,.slice (some R) d d],k] x.val fun e w'=>e=.returned T/\Below x.val.heap.size x.val w');have fR:T.natAbs<=8*(1228800000000000*20):=by have:=ZfO (X:=20) (Y:=1228800000000000) k X W X.length (by rw[<-aS.out];exact cF.out.exs_co) cG.out;rw[ZBo,<-aS.out,Z8,ZBp (by rw[aF.out,J.out];exact ZBF _),aS.out,hT]at this;refine ZBG this (ZBQ _ fO)
        have fA:u.natAbs<=400:=by rw[<-N];exact cA.out.get k
        have fB:=Zaf fA dH;obtain⟨y,hy⟩:=Qu (u*den);rw[hy]at fB;obtain⟨s,hs⟩:=Qu (y+T);have cM:IntKind.i64.wrap (u*den)=y:=by rw[hy];exact ZzE _ Qa
        have fC:IntKind.i64.wrap (y+T)=s:=by rw[hs];exact ZzE _ Qa
        have cW:=ZzG (show ws.getD k 0*den+putsL X W k=s by rw[N,hT,hy,hs]);clear N hT fR fA fB hy hs;go_wp2;refine ZaK w 11 Qb Qb Qi ?_;intro bS bF;simp only[ZBr,ZBt,ZzZ,Zz0];repeat (go_big_quiet_step ((go_at_call 72;with_reducible exact Grew.call (eC.out _))))
        refine wpQuiet_nil ?_;intro wb m aX dR;clear bS bF;have bE:=ZzG (H.out.below m);have dD:=Zx m aA;have R1:=Zx m P1;have C1:=bk3 R1;have bO:=via K m;clear H aA P0 P1 D cD bB cw eC;by_cases dQ:s<lev
        ·have aG:=ZzG (show Za6 X ws z t=none by rw[bZ.out,Zsu (j:=k) (by rw[aD.out];exact aV) (by rw[cW.out];exact dQ)];rfl);go_wp2;refine bodyPost_ret (v:=.tuple #[.agg #[(0:Int),(0:Int),.slice none 0 0],false]) ?_ rfl ⟨?_,?_⟩;·refine ZaG (p:=4) (u:=5) (ad:=⟨w.heap.size+1,0,none⟩) (v:=.agg #[(0:Int),(0:Int),.slice none 0 0]) rfl Qe (Zag (T:=35) (cs:=[.int .i64 0,.int .i64 0,.slice none 0 0]) Qb Qb ?_);exact ZL (ZL (ZL (R1) _ rfl) _ rfl) _ rfl
         ·unfold Ze0;rw[aG.out]
         ·first|go_grown|(repeat' (first|exact aX|refine ZyV ?_ Qg _))
        ·go_wp2;go_roundw;case rel=>exact⟨k+1,Qa,Qj,bE.out,dD,(fun j hj=>by
          by_cases gF:j=k;·rw[gF,cW.out];exact dQ
          ·exact ZzD.2 (dN.out j Qa)),bO⟩
         case measure=>exact Qv
       ·obtain rfl:np=k:=Qa
        have bA:=bZ.out;rw[Zsv (fun j hj=>dN.out j (by rw[aD.out]at hj;exact hj)),if_pos rfl]at bA;have fP:0<gcdL 0 (den::lev::W):=ZcU den Qd Qa;have bR:=(ZcT (den::lev::W) 0).2;have cE:=ZzG fun A c w' hA=>ZiT A (den::lev::W) c w' hA (by simp only[ZAB];rw[aF.out];have:=J.out;omega) (by
         intro x hx;rcases ZAX.1 hx with rfl|hx;·exact ZBG dH Qc
         ·rcases ZAX.1 hx with rfl|hx;·rw[<-aW.out];exact ZBG (bX.out.get 0) Qc
          ·exact ZBG (cG.out x hx) Qc);have cU:(den::lev::W).length=2+d:=by simp only[ZAB];rw[aF.out];omega
        rw[cU]at cE;obtain⟨gI,eL⟩:∃gI:Int,((gcdL 0 (den::lev::W):Nat):Int)=gI:=⟨_,rfl⟩;rw[eL]at bA bR cE;have dI:0<gI:=Qa
        have gB:¬gI=0:=Qa
        have hK:(gI==0)=false:=by simpa using gB
        have cM:IntKind.i64.wrap (den.tdiv gI)=den / gI:=Zdg dI (bR den Qd) dH Qc;have fC:IntKind.i64.wrap (lev.tdiv gI)=lev / gI:=Zdg dI (bR lev Qd) (by rw[<-aW.out];exact bX.out.get 0) Qc;have gL:=ZzG fun j (hj:j<d)=>(Zdg dI (bR (W.getD j 0) (by
         have cH:j<W.length:=by rw[aF.out];exact hj
         rw[ZAg,ZAm cH];exact ZAY _ (ZAY _ (ZAy cH)))) (cG.out.get j) Qc:IntKind.i64.wrap ((W.getD j 0).tdiv gI)=W.getD j 0 / gI);have cC:=ZzG bA;have bW:=ZzG fun(x:World)=>(⟨rfl,.inr ⟨x.heap.size,2,#[.int .i64 den,.int .i64 lev],rfl,ZBF _,ZA _ _ rfl,ZBF _,Qc,rfl,rfl⟩⟩:(x.alloc (.cells #[den,lev] 3)).ownsRow x.heap.size 3 1 (.slice (some x.heap.size) 2 2) 2 [.int .i64 den,.int .i64 lev]);clear bA bR fP eL cU bZ dN aV cD bB;go_wp2_with (at_builtin;refine wpList_append_own _ rfl _ _ 31 rfl wr.heap.size 3 i0 (.int .i64 0) 1 8 underlying31 hi dU dV dW rfl Qc _ _ _ rfl (bW.out wr) ⟨R,0,none⟩ d d (W.map (Value.int .i64)) rfl ?c0 ?c1 ?c2 ?c3 ?c4 ?c5 ?_);case c0=>rw[ZAD,aF.out,ZBR]
        case c1=>
         intro j u N;rw[ZAq]at N;obtain⟨y,hy,rfl⟩:=ZB7.1 N;have:=(H.out.alloc (.cells #[den,lev] 3)).load hy;have e:Addr.add ⟨R,0,none⟩ j=⟨R,j,none⟩:=by unfold Addr.add;split<;>simp_all
         rw[e];exact this
        case c2=>intro u N;obtain⟨y,-,rfl⟩:=ZA3.1 N;rfl
        case c3=>have:=J.out;unfold maxLen;omega
        case c4=>have:=J.out;omega
        case c5=>simp
        intro v4 w4 I aQ _;obtain⟨A4,c4,rfl⟩:=Z2 I;have aP:QB wr w4:=ZT (ZC wr _) aQ fun b e=>by cases e;exact ZBF _
        have cO:=ZzG (show At 1 Zc w4 A4 (den::lev::W)from ZaA (l:=den::lev::W) I);have dZ:=ZzG (H.out.below aP);have eD:=Zx aP aA;have R4:=Zx aP P1;have cP:=via K aP;clear I aQ aP H aA P0 P1 D K aC;go_wp2_with (go_at_call 62;refine(cE.out _ _ _ cO.out).mono ?_;rintro e w5 ⟨rfl,bM⟩);have dC:=ZzG (dZ.out.below bM);have eE:=Zx bM eD;have R5:=Zx bM R4;have cQ:=via cP bM;clear dZ eD R4 cP bM cO cE bW;apply Ztg w2 1 5 9 11 Q (.int .i64 den) (.int .i64 lev) (fun a b=>.cells #[.int .i64 (if a then den / gI else den),.int .i64 (if b then lev / gI else lev),.slice (some R) d d] 35);case hm=>kernel_rfl
        case hB=>kernel_rfl
        case hB'=>intro g;kernel_rfl
        case hS|hN=>kernel_rfl
        case hne=>decide
        case hkd=>kernel_rfl
        case hw=>exact cQ
        case hb=>exact dY
        case hb0=>exact eE
        case hcl=>
         intro L hc;refine⟨⟨fun h=>?_,fun h=>?_⟩,fun o U h=>?_,fun o U h=>?_⟩;·have h2:=hc 9 _ rfl h;simp[Region.binds]at h2;exact⟨by simp[h2],by simp[h2]⟩
         ·have h2:=hc 11 _ rfl h;simp[Region.binds]at h2;exact⟨by simp[h2],by simp[h2]⟩
         ·simp at U;subst U;simp[Region.binds]at h;exact⟨by simp[h],by simp[h]⟩
         ·simp at U;subst U;simp[Region.binds]at h;exact⟨by simp[h],by simp[h]⟩
        case hq=>
         intro g u N bS bF fV;dsimp only[mixL,yieldsC,ZzS,ZzV];simp only[mixL,yieldsC,ZzS,ZzV,Nat.reduceAdd,Nat.reduceBEq,ZB1,Zy6,Zy8,Zy1,Zy9,Zy0,if_true,if_false,Zy7,Nat.reduceEqDiff];repeat (go_big_quiet_step (fail))
         exact wpQuiet_nil rfl
        case hp=>intro o U g x hx;simp only[ZAj,ZAk,ZCa]at U;subst U;have D:=bk3 hx;exact ZmI (b:=Q) (off:=0) rfl Qb Qb (by simpa using D.1)
        case hqq=>intro o U g x hx;simp only[ZAj,ZAk,ZCa]at U;subst U;have D:=bk3 hx;exact ZmI (b:=Q) (off:=1) rfl Qb Qb (by simpa using D.2.1)
        case hind=>exact Qx
        case hs1=>intro o U f g x hx;simp only[ZAj,ZAk,ZCa]at U;subst U;have D:=bk3 hx;exact⟨_,Zg6 (n:=den / gI) rfl Qb Qb Qb D.1 (by simp[D]),(OnlyB.refl _ _).set _ _,ZL hx _ rfl⟩
        case hs2=>intro o U f g x hx;simp only[ZAj,ZAk,ZCa]at U;subst U;have D:=bk3 hx;exact⟨_,Zg6 (n:=lev / gI) rfl Qb Qb Qb D.2.1 (by simp[D]),(OnlyB.refl _ _).set _ _,ZL hx _ rfl⟩
        intro g x hg cR bK;simp only[if_true]at bK;have eB:=ZzG (show ZM 3 x R W from(hg.block R dC.out.size (by simpa using aY)).trans dC.out);have R6:=Zaz hg R5 (by have:=ZI N1;simp;omega);have dG:=cM;obtain⟨d2,dG⟩:=Qu (den / gI);obtain⟨l2,eN⟩:=Qu (lev / gI);rw[dG,eN]at bK cC;clear hg dC eE R5 cQ cM fC dG eN g;have D:=bk3 bK;go_wp2;go_loopw [151] (fun i wr=>∃k:Nat,k<=d/\i=.int .i64 k/\Hid (ZM 3 wr R ((W.take k).map (· / gI)++W.drop k))/\wr.heap[Q]?=some (.cells #[d2,l2,.slice (some R) d d] 35)/\QB w2 wr)(fun i _=>d-(intOf i).toNat);case atStart=>exact⟨0,ZB2 _,rfl,ZzG (by simpa using eB.out),bK,cR⟩
        case round=>
         clear eB bK cR D R6;obtain⟨k,hk,rfl,bC,dE,bP⟩:=hrel;have D:=bk3 dE;have eV:=bC.out.size;have eU:=ZI dE;by_cases aV:k<d
         ·have eM:(k:Int)<(d:Int):=Qa
          have dL:k<W.length:=by rw[aF.out];exact aV
          have ci:=bC.out.load (Zme (g:=gI) dL);have fi:=bC.out.frozen k;have bD:=ZzG (bC.out.store k (W.getD k 0 / gI));rw[Zmd dL]at bD;have gN:=gL.out k aV;have gQ:d<=8:=by have:=J.out;omega
          obtain⟨y,hy⟩:=Qu (W.getD k 0);rw[hy]at ci gN bD;clear hy dL;go_wp2;go_roundw;case rel=>
           refine⟨k+1,Qa,Qj,bD.out,ZB dE ?_ _,bP.setCell ?_ _⟩;·exact fun e=>aY e.symm
           ·exact dA
          case measure=>exact Qv
         ·obtain rfl:d=k:=Qa
          have P1:=Zx bP N1;have bD:=bC.out;rw[show W.take d=W by rw[<-aF.out,ZBo],show W.drop d=[]by rw[<-aF.out,List.drop_length],ZzO]at bD;have eI:=via O bP;have C1:=bk3 P1;have dF:R≠w.heap.size+1:=by have:=ZI N1;omega
          clear bC;go_wp2;refine bodyPost_ret (v:=.tuple #[.agg #[d2,l2,.slice (some R) d d],true]) ?_ rfl ⟨?_,?_⟩;·refine ZaG (p:=4) (u:=5) (ad:=⟨w.heap.size+1,0,none⟩) (v:=.agg #[d2,l2,.slice (some R) d d]) rfl Qe (Zag (T:=35) (cs:=[.int .i64 d2,.int .i64 l2,.slice (some R) d d]) Qb Qb ?_);exact ZL (ZL (ZL P1 _ rfl) _ rfl) _ rfl
          ·unfold Ze0;rw[cC.out];exact⟨_,_,rfl,Zsw (((bD.other _ _ (fun e=>dF e.symm)).other _ _ (fun e=>dF e.symm)).other _ _ (fun e=>dF e.symm)) (by simp[aF.out]) (by have:=J.out;omega) (ZBG O.size dA)⟩
          ·exact((eI.setCell Qg _).setCell Qg _).setCell Qg _
variable {w:World} {base n c g:Nat} {e:TypeId} {xs:List Value}
theorem Ztv(h:w.ownsRow base e 1 (.slice (some g) n c) n xs) {k:Nat} (hk:k<n)(v:Value):(w.setCell ⟨g,k,none⟩ v).ownsRow base e 1 (.slice (some g) n c) n (xs.set k v):=by
 obtain⟨s,i⟩:=h;refine⟨by simpa using s,?_⟩;rcases i with⟨i,-⟩|⟨E,r,f,t,u,y,z,D,m,o⟩;·cases i
 ·cases t;refine .inr ⟨g,c,f.setIfInBounds k v,rfl,u,?_,z,D,by simpa using m,?_⟩;·simp only[World.setCell];rw[ZyB,if_pos rfl,y];simp
  ·rw[ZBR]at o |-;rw[<-o];apply Zz5;intro j;rw[ZAw,ZyI,ZyF,ZAu,ZAw,ZAH,Array.length_toList,m];by_cases p:j<n
   ·simp only[p,if_true];by_cases d:k=j;·subst d;rw[if_pos rfl,if_pos rfl,if_pos Qa,if_pos Qa]
    ·rw[if_neg d,if_neg d,ZyI]
   ·simp only[p,if_false];rw[if_neg Qa]
theorem Ztw(h:w.ownsRow base e 1 (.slice (some g) n c) n xs)(k:Nat):w.frozen? ⟨g,k,none⟩=false:=by
 rcases h.2 with⟨i,-⟩|⟨p,d,f,m,r,o,s,t,u,y⟩;·cases i
 ·cases m;unfold World.frozen?;rw[o];simp
theorem Ztx(X:ByteArray)(p s:Option Addr)(f l:List Int)(t H np:Nat)(o den:Int)(w:World)(J:At 1 Zc w p f)(L:At 1 Zc w s l)(i:f.length=np)(Q:l.length=np)(Y:np<=8)(S:ZE 20 f)(D:o.natAbs<=20)(sl:ZE 10000000000000000 l)(m:den.natAbs<=10000000000000000):Calls prog 86 #[.agg #[.string X,.slice p np t,o],.agg #[den,.slice s np H]] w (Qt w (decide (dotL f l<=o*den))):=by
 have K:=ZzG fun W (N:QB w W)=>(by have:=ZiS p s f l t H W (J.below N) (L.below N) Qa Qa 20 10000000000000000 Qc S sl;rw[i,Q]at this;exact this:Calls prog 30 #[.slice p np t,.slice s np H] W fun e I=>e=.returned (dotL f l)/\W=I);have R:=Zaf D m;obtain⟨y,r⟩:=Qu (o*den);rw[r]at R;have V:IntKind.i64.wrap (o*den)=y:=by rw[r];exact ZzE _ Qa
 rw[r];obtain⟨d,O⟩:=Qu (dotL f l);rw[O]at K |-;clear r O R J L i Q S sl;go_enter func86,ntmps86;go_wp2;obtain⟨U,Z⟩:∃U,U=w:=⟨_,rfl⟩;refine Zbr w Qb Qb Qi ?_;intro z h;repeat (go_big_quiet_step ((go_at_call 30;with_reducible exact Zd (K.out _ (h.out _)))))
 refine wpQuiet_nil ?_;intro wb u G E;clear z h;go_wp2;go_ret;exact⟨rfl,by assumption⟩
variable {n k np:Nat} {es:List En} {l:List Int} {den:Int}
theorem ZmX(h:k<n):(List.replicate k (1:Int)++List.replicate (n-k) 0).set k 1=List.replicate (k+1) 1++List.replicate (n-(k+1)) 0:=by obtain⟨r,d⟩:∃r,n-k=r+1:=⟨n-k-1,Qa⟩;rw[d,show n-(k+1)=r by omega,ZBk _ _ Qd,List.length_replicate,Nat.sub_self,ZBi,List.replicate_succ' (n:=k)];simp
theorem ZmY{i:Nat} (h:i<n):(List.replicate n (0:Int)).set i 1=ZaI n i:=by
 apply Zz5;intro j;rw[ZAu];unfold ZaI;rw[ZAq];by_cases f:j<n
 ·rw[ZAs f];by_cases d:i=j;·subst d;simp[h]
  ·have:¬j=i:=fun e=>d e.symm;simp[d,this,ZAt,f]
 ·rw[ZAn Qk];have:i≠j:=Qa
  simp[this,f]
theorem Zjl(h:RightE es np)(z t:List Nat):ZcA (Zam np (exs es) z t):=by
 intro s m;simp only[Zam,ZAX,ZAU,ZA3]at m;rcases m with rfl|⟨i,-,rfl⟩|⟨i,-,rfl⟩;·intro x d;rw[Zz3 d];decide
 ·intro x d;obtain⟨j,-,rfl⟩:=ZA3.1 d;split<;>decide
 ·intro x d;have r:=Zjk h i;have f:((exs es).getD i default).2.natAbs<=20:=by rw[ZAg];cases p:(exs es)[i]? with|none=>simp[default,instInhabitedProd]|some x=>exact h.exs_mo x (ZA5 p)
  rcases ZAU.1 d with d|d;·obtain⟨c,o⟩:=ZA2.1 d;have:=r c;rw[ZAg,o]at this;exact ZBG this Qc
  ·rw[ZA9]at d;subst d;exact ZBG f Qc
theorem Zjm(np:Nat)(es:List Ex)(z t:List Nat):(Zam np es z t).length=z.length+t.length+1:=by simp[Zam]
theorem Zty(h:RightE es np) {z t:List Nat} (o:∀i∈t,i<es.length):∀row∈Zam np (exs es) z t,row.length=np+1:=by
 intro row f;simp only[Zam,ZAX,ZAU,ZA3]at f;rcases f with rfl|⟨i,-,rfl⟩|⟨i,m,rfl⟩;·simp
 ·simp[ZaI]
 ·have d:=o i m;rw[ZAA,ZdH (ZAm d),(h.co _ (ZAy d)).1];rfl
theorem Ztz(hk:k<l.length)(h:l.getD k 0<0):l.any (·<0)=true:=by rw[ZzM];refine⟨l[k],ZAy hk,?_⟩;rw[ZAg,ZAm hk]at h;simpa using h
theorem ZtA(h:∀k,k<l.length->¬l.getD k 0<0):l.any (·<0)=false:=by rw[ZzL];intro x f;obtain⟨k,d,rfl⟩:=ZAz f;have:=h k d;rw[ZAg,ZAm d]at this;simpa using this
theorem ZtB{es:List Ex} (hk:k<es.length)(h:¬dotL (es.getD k default).1 l<=(es.getD k default).2*den):es.any (fun x=>!decide (dotL x.1 l<=x.2*den))=true:=Qn
theorem ZtC{es:List Ex} (h:∀k,k<es.length->dotL (es.getD k default).1 l<=(es.getD k default).2*den):es.any (fun x=>!decide (dotL x.1 l<=x.2*den))=false:=by rw[ZzL];intro x f;obtain⟨k,d,rfl⟩:=ZAz f;have:=h k d;rw[ZAg,ZAm d]at this;simpa using this
theorem RowsOwn.one{W:World} {base B:Nat} (h:ZM 3 W B l)(hb:base<=B)(i:l.length=n):RowsOwn (W.alloc (.cells #[.slice (some B) n n] 31)) base (.slice (some W.heap.size) 1 1) [⟨some ⟨B,0,none⟩,n,l⟩]:=by
 have m:=h.size;refine⟨⟨rfl,.inr ⟨W.heap.size,1,_,rfl,Qa,ZA _ _ rfl,ZBF _,Qc,rfl,?_⟩⟩,fun x d=>?_⟩;·simp[i]
 ·rw[ZA9]at d;subst d;refine⟨(h.alloc _).at',fun g f=>?_⟩;cases f;refine⟨hb,Qk,fun e=>?_⟩;cases e;exact ZBI _ m
def Ze1(q:Option (List Int×Int))(np f:Nat)(e:Ending)(w':World):Prop:=match q with|none=>e=.returned (.tuple #[.agg #[(0:Int),.slice none 0 0],false])|some (m,d)=>∃A c,e=.returned (.tuple #[.agg #[d,.slice A np c],true])/\w'.ownsRow f 3 1 (.slice A np c) np (m.map (Value.int .i64))
theorem _root_.Qy{P:Prop}(h:P:=by intro a b;simp only[ZAX,ZBe,or_false]at b;rcases b with rfl|rfl|rfl|rfl|rfl|rfl<;>(intro c d;kernel_rfl)):P:=h
theorem ZtD(pA eA zA tA:Option Addr)(np pc en ec zn zc tn tc:Nat)(es:List En)(z t:List Nat)(w:World)(hR:RightE es np)(hE:Zas w eA es)(eG:es.length=en)(hZ:At 1 Zc w zA (ZN z))(eU:z.length=zn)(hT:At 1 Zc w tA (ZN t))(eR:t.length=tn)(h5:np<=5)(hz:∀i∈z,i<np)(ht:∀i∈t,i<en)(eV:z.length+t.length+1=np):Calls prog 61 #[.agg (Z3 (.slice pA np pc) (.slice eA en ec) (.slice zA zn zc) (.slice tA tn tc) z t).toArray] w fun e w'=>Ze1 (Za3 np (exs es) z t) np w.heap.size e w'/\QB w w':=by
 obtain⟨BA,bO⟩:=Qu ((Z3 (.slice pA np pc) (.slice eA en ec) (.slice zA zn zc) (.slice tA tn tc) z t).toArray);have fX:=hR.n8;have fZ:=ZzG fun W (hb:QB w W) k (hk:k<zn)=>Zan (hZ.below hb) (k:=k) (by rw[ZcD];omega);have fT:=ZzG fun W (hb:QB w W) k (hk:k<tn)=>Zan (hT.below hb) (k:=k) (by rw[ZcD];omega);have fE:=ZzG fun W (hb:QB w W) i (hi:i<en)=>(by
  have bV:i<es.length:=Qa
  obtain⟨b,o,hA,fC,dA⟩:=(hE.below hb).1 i _ (ZAm bV);have hx:=ZAy bV;obtain⟨R,h2,h3⟩:=hR.co _ hx;refine⟨es[i],b,o,hA,fC,R,h2,h3,?_,?_,dA 2 _ rfl,(hE.below hb).2 _ hx,ZdH (ZAm bV),ZAm bV⟩;·simpa using dA 0 _ rfl
  ·have:=dA 1 _ rfl;rw[R]at this;exact this:∃x:En,∃b o,eA=some ⟨b,o,none⟩/\b<W.heap.size/\x.co.length=np/\ZE 20 x.co/\x.mo.natAbs<=20/\W.cell? ⟨b,o+i*3,none⟩=some (.string x.nm)/\W.cell? ⟨b,o+i*3+1,none⟩=some (.slice x.A np x.c)/\W.cell? ⟨b,o+i*3+2,none⟩=some (.int .i64 x.mo)/\At 1 Zc W x.A x.co/\(exs es).getD i default=(x.co,x.mo)/\es[i]?=some x);have dE:=ZdG (np+1) Qa;obtain⟨m,bR⟩:=Qu (np+1);rw[bR]at dE;have dI:IntKind.i64.wrap ((np:Int)+1)=(m:Int):=by rw[<-bR];exact ZzE _ Qa
 have gA:m<=6:=Qa
 have cE:=ZzG bR;have cW:=ZzG hR;have aZ:=ZzG eG;have aN:=ZzG eU;have bH:=ZzG eR;have fK:=ZzG hz;have eQ:=ZzG ht;have aO:=ZzG eV;have dM:=ZzG bO;have gO:zn<=4:=Qa
 have fP:en<=8:=Qa
 have gN:tn<=4:=Qa
 rw[bO];obtain⟨i0,hi,dJ,dK,dL⟩:=info_parts info3;obtain⟨i1,hj,eJ,eK,bB⟩:=info_parts info31;obtain⟨X,hX⟩:=Qu (exs es);have aU:=ZzG hX;rw[hX]at fE |-;have fY:0<m:=Qa
 have dZ:BA[0]?=some (.slice pA np pc):=by rw[<-bO];rfl
 clear hR hE eG eU eR hz ht eV bO hZ hT hX bR;have c0:=ZzG fun(W:World)(h:W.heap[w.heap.size]?=some (.cells BA 116))=>(by
  have NB:W.heap[w.heap.size]?=some (.cells (Z3 (.slice pA np pc) (.slice eA en ec) (.slice zA zn zc) (.slice tA tn tc) z t).toArray 116 (0,0)):=by rw[dM.out];exact h
  exact⟨ZaQ NB (k:=0) rfl,ZaQ NB (k:=1) rfl,ZaQ NB (k:=2) rfl,ZaQ NB (k:=3) rfl,ZI h⟩:W.cell? w.heap.size=some (.slice pA np pc)/\W.cell? ⟨w.heap.size,1,none⟩=some (.slice eA en ec)/\W.cell? ⟨w.heap.size,2,none⟩=some (.slice zA zn zc)/\W.cell? ⟨w.heap.size,3,none⟩=some (.slice tA tn tc)/\w.heap.size<W.heap.size);go_enter func61,ntmps61;go_wp2;clear dZ;go_loopw [33] (fun i wr=>∃k:Nat,k<=m/\i=.int .i64 k/\Hid (ZM 3 wr (w.heap.size+2) (List.replicate k 1++List.replicate (m-k) 0))/\wr.heap[w.heap.size]?=some (.cells BA 116)/\wr.heap[w.heap.size+1]?=some (.cells #[(0:Int),.slice none 0 0] 33)/\QB w wr) (fun i _=>m-(intOf i).toNat);case atStart=>
  refine⟨0,ZB2 _,rfl,?_,?_,?_,?_⟩;·have:=ZM.new (T:=3) ((w.alloc (.cells BA 116)).alloc (.cells #[(0:Int),.slice none 0 0] 33)) (List.replicate m 0);simp only[World.size_alloc]at this;exact ZzG (by simpa using this)
  ·exact Qs
  ·exact Qs
  ·go_grown
 case round=>
  obtain⟨k,hk,rfl,hI,M0,M1,E⟩:=hrel;have fD:=hI.out.size;by_cases s:k<m
  ·have bC:(k:Int)<(m:Int):=Qa
   have ci:=hI.out.loadD (k:=k) Qk;have fi:=hI.out.frozen k;have aQ:=ZzG (hI.out.store k 1);rw[ZmX s]at aQ;clear dE;go_wp2;go_roundw;case rel=>exact⟨k+1,Qa,Qj,aQ.out,ZB M0 Qg _,ZB M1 Qg _,E.setCell Qg _⟩
   case measure=>exact Qv
  ·obtain rfl:m=k:=Qa
   have dP:=ZzG (show ZM 3 wr (w.heap.size+2) (List.replicate m 1)by simpa using hI.out);obtain⟨d0,d1,d2,d3,d4⟩:=c0.out _ M0;clear hI s;go_wp2;clear d0 d1 d2 d3 d4;go_loopw [7,45] (fun v7 i wr=>∃(k:Nat)(xs:List IR),k<=zn/\i=.int .i64 k/\Hid (RowsOwn wr (w.heap.size+2) v7 xs/\xs.map IR.l=List.replicate m 1::(z.take k).map (ZaI m))/\wr.heap[w.heap.size]?=some (.cells BA 116)/\wr.heap[w.heap.size+1]?=some (.cells #[(0:Int),.slice none 0 0] 33)/\QB w wr)(fun _ i _=>zn-(intOf i).toNat);case atStart=>exact⟨0,_,ZB2 _,rfl,ZzG ⟨RowsOwn.one dP.out (ZBF _) Qd,Qd⟩,Zz M0 _,Zz M1 _,via E (ZC _ _)⟩
   case round=>
    clear dP M0 M1 E fD;obtain⟨k,xs,hk,rfl,f,M0,M1,E⟩:=hrel;have s0:=ZI M0;have s1:=ZI M1;by_cases s:k<zn
    ·have bC:(k:Int)<(zn:Int):=Qa
     obtain⟨bz,oz,rfl,gE,cz⟩:=fZ.out wr E k s;obtain⟨i,Z⟩:∃i,z[k]?=some i:=⟨_,ZAm (by rw[aN.out];exact s)⟩;have bA:(ZN z).getD k 0=(i:Int):=by rw[ZAg,ZcE Z];rfl
     rw[bA]at cz;have dB:=fK.out i (ZA5 Z);have fB:(i:Int)<(m:Int):=by have:=cE.out;omega
     have bY:=ZzG (show (z.take (k+1)).map (ZaI m)=(z.take k).map (ZaI m)++[ZaI m i]by rw[ZBn,Z];simp);have cC:=ZzG (show xs.length=k+1 by have R:=congrArg List.length f.out.2;rw[ZAD]at R;simp only[ZAB,ZAD,ZAH]at R;rw[aN.out]at R;omega);have bQ:=ZzG (ZM.new (T:=3) wr (List.replicate m 0));have ci:=bQ.out.loadD (k:=i) Qk;have fi:=bQ.out.frozen i;have aQ:=ZzG (bQ.out.store i 1);rw[ZmY Qa]at aQ;obtain⟨A7,c7,rfl⟩:=Z2 f.out.1.own;have U:QB wr (wr.alloc (.cells ((ZaL (List.replicate m 0)).setIfInBounds i (.int .i64 1)) 3)):=ZC wr _;have aQ:=ZzG (show ZM 3 (wr.alloc (.cells ((ZaL (List.replicate m 0)).setIfInBounds i (.int .i64 1)) 3)) wr.heap.size (ZaI m i)by rw[ZgS,ZmY Qa];exact ZM.new wr _);have S:=ZzG (f.out.1.below U);have bF:=ZzG f.out.2;have eP:=ZzG (show some wr.heap.size≠(Value.slice A7 xs.length c7).ownBlock from fun e=>ZBI _ (f.out.1.own.lt _ e.symm).2);have Q0:=ZzG (Zx U M0);have Q1:=ZzG (Zx U M1);have aF:=ZzG (via E U);clear bA Z bQ f E U M0 M1;go_wp2_with (at_builtin;refine wpList_append_lies _ rfl _ _ 148 rfl (w.heap.size+2) 31 i1 (.slice none 0 0) 1 24 underlying148 hj eJ eK bB rfl Qc _ _ _ rfl (S.out.own.alloc _) ⟨wr.heap.size+1,0,none⟩ 1 1 [.slice (some wr.heap.size) m m] rfl rfl ?c1 ?c2 Qc ?c3 ?c4 ?c5 (wr.heap.size+1+1) ?c6 ?_);case c1=>exact Zbd _ [.slice (some wr.heap.size) m m] _ Qd
     case c2=>intro u hu;simp at hu;subst hu;rfl
     case c3=>have:=cC.out;unfold maxLen;omega
     case c4=>have:=cC.out;omega
     case c5=>have:=aF.out.size;simp at this;simp;omega
     case c6=>simp
     intro g fW w4 I aG cM fR;have dY:=ZzG (RowsOwn.push (x:=⟨some ⟨wr.heap.size,0,none⟩,m,ZaI m i⟩) S.out (ZC _ _) rfl ((aQ.out.at').below (ZC _ _)) Qg Qk eP.out aG (by show w4.ownsRow _ 31 1 _ _ (_++[Value.slice (some wr.heap.size) (ZaI m i).length m]);rw[show (ZaI m i).length=m by simp[ZaI]];exact I) (by simpa using cM));have eB:QB w w4:=ZT (via aF.out (ZC _ _)) aG fun b e=>by have:=(S.out.own.lt b e).1;omega
     have R0:=Zaz aG (Zz Q0.out _) (Zay S.out.own Qa);have R1:=Zaz aG (Zz Q1.out _) (Zay S.out.own Qa);have K:=ZzG (show (xs++[(⟨some ⟨wr.heap.size,0,none⟩,m,ZaI m i⟩:IR)]).map IR.l=List.replicate m 1::(z.take (k+1)).map (ZaI m)from by rw[ZAL,bF.out,bY.out];rfl);clear I aG cM S bF Q0 Q1;go_wp2;go_roundw;case rel=>exact⟨k+1,_,Qa,Qj,⟨dY.out,K.out⟩,R0,R1,eB⟩
     case measure=>exact Qv
    ·obtain rfl:zn=k:=Qa
     have aC:z.take zn=z:=by rw[<-aN.out,ZBo]
     rw[aC]at f;obtain⟨d0,d1,d2,d3,d4⟩:=c0.out _ M0;clear s dE dI aC;go_wp2;clear d0 d1 d2 d3 d4;go_loopw [7,63] (fun v7 i wr=>∃(k:Nat)(xs:List IR),k<=tn/\i=.int .i64 k/\Hid (RowsOwn wr (w.heap.size+2) v7 xs/\xs.map IR.l=List.replicate m 1::(z.map (ZaI m)++(t.take k).map fun i=>(X.getD i default).1++[(X.getD i default).2]))/\wr.heap[w.heap.size]?=some (.cells BA 116)/\wr.heap[w.heap.size+1]?=some (.cells #[(0:Int),.slice none 0 0] 33)/\QB w wr)(fun _ i _=>tn-(intOf i).toNat);case atStart=>exact⟨0,xs,ZB2 _,rfl,ZzG ⟨f.out.1,by rw[f.out.2];simp⟩,M0,M1,E⟩
     case round=>
      clear f M0 M1 E s0 s1;obtain⟨k,xs,hk,rfl,f,M0,M1,E⟩:=hrel;have s0:=ZI M0;have s1:=ZI M1;by_cases s:k<tn
      ·have bC:(k:Int)<(tn:Int):=Qa
       obtain⟨bt,ot,rfl,gC,ct⟩:=fT.out wr E k s;obtain⟨i,Z⟩:∃i,t[k]?=some i:=⟨_,ZAm (by rw[bH.out];exact s)⟩;have bA:(ZN t).getD k 0=(i:Int):=by rw[ZAg,ZcE Z];rfl
       rw[bA]at ct;have dB:=eQ.out i (ZA5 Z);have fB:(i:Int)<(en:Int):=Qa
       obtain⟨x,be,oe,rfl,eY,aB,cD,cA,e0,e1,e2,bI,bK,bJ⟩:=fE.out wr E i dB;have bY:=ZzG (show (t.take (k+1)).map (fun i=>(X.getD i default).1++[(X.getD i default).2])=(t.take k).map (fun i=>(X.getD i default).1++[(X.getD i default).2])++[x.co++[x.mo]]by rw[ZBn,Z,ZAL,Option.toList_some,ZAN,ZAQ,bK]);have cC:=ZzG (show xs.length<=20 by have R:=congrArg List.length f.out.2;rw[ZAD]at R;simp only[ZAB,ZAA,ZAD,ZAH]at R;rw[aN.out,bH.out]at R;omega);obtain⟨d0,d1,d2,d3,d4⟩:=c0.out _ M0;obtain⟨A7,c7,rfl⟩:=Z2 f.out.1.own;have bF:=ZzG f.out.2;have S:=ZzG f.out.1;have cO:=ZzG bI;have bL:=ZzG aB;clear bA Z f aB cD cA bI bK;have bJ:=ZzG bJ;have fJ:0<np:=by have:=aO.out;omega
       go_wp2;refine Zbw ?_;intro W6 cX;have aS:QB wr W6:=by rw[cX];exact ZC _ _
       have H6:W6.heap[wr.heap.size]?=some (.cells #[.string x.nm,.slice x.A np x.c,x.mo] 76):=by rw[cX];exact ZA _ _ rfl
       have aT:=ZzG (S.out.below aS);have Q0:=Zx aS M0;have Q1:=Zx aS M1;have Y:=via E aS;have fF:wr.heap.size<W6.heap.size:=ZI H6;have bZ:=ZzG (show ∀r,(Value.slice A7 xs.length c7).ownBlock=some r->w.heap.size+2<=r/\r<wr.heap.size from fun r e=>S.out.own.lt r e);have fV:=ZzG (cO.out.below aS);have eL:=ZzG fun(u:World)(hu:Z0 w W6 (.slice A7 xs.length c7) u)=>(hu.2.2 _ fF (fun e=>ZBI _ (bZ.out _ e.symm).2)).trans H6;have cP:=ZzG fun(u:World)(hu:Z0 w W6 (.slice A7 xs.length c7) u)=>(by obtain⟨x',b',o',e1,-,e2,-,-,-,-,-,e3,-,e4⟩:=fE.out u hu.1 i dB;have cQ:=bJ.out;rw[e4]at cQ;cases cQ;exact e3:At 1 Zc u x.A x.co);clear cX aS S M0 M1 E cO d0 d1 d2 d3 d4 e0 e1 e2 ct;refine wp_region_any Qb ?_;refine Zbt 11 _ rfl rfl Qb Qb Qb Qb ?_;simp only[ZBr,ZBt];apply Zth w 1 4 7 8 9 10 np xs.length 3 (x.co.map (Value.int .i64)) [.int .i64 x.mo] (.cells #[] 3) (.cells #[x.mo] 3) (fun h=>.cells #[.slice h.a1 (np+1) h.c1] 31) (fun h=>[.slice h.a1 (np+1) h.c1]) (w.heap.size+2) 31 (.slice A7 xs.length c7) (xs.map fun x=>.slice x.A x.l.length x.c);case hB=>kernel_rfl
       case hB'=>intro g;kernel_rfl
       case hS|hN=>kernel_rfl
       case hne=>decide
       case hd1=>
        intro L hc;refine⟨fun o H h=>?_,fun o H h=>?_,fun o H h=>?_⟩;·simp at H;subst H;simp[Region.binds]at h;exact⟨by simp[h],by simp[h]⟩
        ·simp at H;subst H;simp[Region.binds]at h;simp[h]
        ·simp at H;subst H;simp[Region.binds]at h;simp[h]
       case hw=>exact Y
       case hv0=>intro r e;have:=(bZ.out r e).1;omega
       case hown=>exact aT.out.own
       case hal0=>intro o H g y;simp only[ZAj,ZAk,ZCa]at H;subst H;kernel_rfl
       case hal1=>intro o H g y;simp only[ZAj,ZAk,ZCa]at H;subst H;kernel_rfl
       case hal2=>intro o H g y;simp only[ZAj,ZAk,ZCa]at H;subst H;kernel_rfl
       case hcl=>intro o H g y hy;simp only[ZAj,ZAk,ZCa]at H;subst H;exact Zti (P:=prog) (A:=x.A) (l:=x.co) (n:=np) (b:=(g 1).b) (c:=x.c) (.tmp 74) (.tmp 76) 31 3 i0 (.int .i64 0) 8 W6.heap.size bL.out Qe Qb Qb underlying31 hi dJ dK dL Qe Qc (cP.out y hy) (by rw[bL.out];exact fJ) (by rw[bL.out];omega) hy.2.1
       case hq=>
        intro g u hu gK gD gB;have D6:=bk3 (eL.out u hu);dsimp only[mixL,yieldsC,ZzS,ZzV];simp only[mixL,mkR6,yieldsC,ZzS,ZzV,Nat.reduceAdd,Nat.reduceBEq,ZB1,Zy6,Zy8,Zy1,Zy9,Zy0,if_true,if_false,Zy7,Nat.reduceEqDiff];repeat (go_big_quiet_step (fail))
        exact wpQuiet_nil rfl
       case hap1=>intro o H g y hy R h2;simp only[ZAj,ZAk,ZCa]at H;subst H;refine Exists.imp (fun v' h=>Exists.imp (fun x' h=>⟨h.1,h.2.1,h.2.2.1⟩) h) (ZmJ (P:=prog) (b:=(g 7).b) (v:=.slice (g 4).a1 np (g 4).c1) (u:=.int .i64 x.mo) (tb:=3) (.tmp 77) (.tmp 80) 31 3 i0 (.int .i64 0) 8 W6.heap.size np (x.co.map (Value.int .i64)) Qe Qb Qb underlying31 hi dJ dK dL Qe Qc R h2 rfl Qa hy.2.1)
       case hap2=>intro o H g y hy R h2;simp only[ZAj,ZAk,ZCa]at H;subst H;exact ZmJ (P:=prog) (.tmp 73) (.tmp 82) 148 31 i1 (.slice none 0 0) _ 24 _ _ _ _ _ _ rfl Qb Qb underlying148 hj eJ eK bB rfl Qc R h2 rfl (by have:=cC.out;omega) (by have:=Y.size;have:=hy.2.1;omega)
       case hind=>exact Qy
       intro g y hy R h2 h3;have cG:=ZzG (aT.out.row6 (l:=x.co++[x.mo]) (by have:=Y.size;omega) hy (by rw[ZAL];exact R) Qa h2 h3);have R0:=(hy.2.2 _ Qa (fun e=>by have:=(bZ.out _ e.symm).1;omega)).trans Q0;have R1:=(hy.2.2 _ Qa (fun e=>by have:=(bZ.out _ e.symm).1;omega)).trans Q1;have eC:=hy.1;have K:=ZzG (show (xs++[(⟨(g 8).a1,(g 8).c1,x.co++[x.mo]⟩:IR)]).map IR.l=List.replicate m 1::(z.map (ZaI m)++(t.take (k+1)).map fun i=>(X.getD i default).1++[(X.getD i default).2])from by rw[ZAL,bF.out,bY.out];simp);obtain⟨A8,hA8⟩:=Qu ((g 10).a1);obtain⟨c8,eD⟩:=Qu ((g 10).c1);rw[hA8,eD]at cG;rw[hA8,eD];clear hy R h2 h3 bY bF eL cP Q0 Q1 aT;dsimp only;go_wp2;go_roundw;case rel=>exact⟨k+1,_,Qa,Qj,⟨cG.out,K.out⟩,R0,R1,eC⟩
       case measure=>exact Qv
      ·obtain rfl:tn=k:=Qa
       have aC:t.take tn=t:=by rw[<-bH.out,ZBo]
       obtain⟨dG,K⟩:=f.out;rw[aC]at K;have aJ:xs.map IR.l=Zam np X z t:=by rw[K,<-cE.out];rfl
       have aB:xs.length=np:=by have R:=congrArg List.length aJ;rw[ZAD,Zjm]at R;have:=aO.out;omega
       obtain⟨A7,c7,rfl⟩:=Z2 dG.own;have gL:1<=np:=by have:=aO.out;omega
       have hS:=ZzG (Zmb A7 xs c7 wr dG.rowsAt (fun x hx=>by have:=Zty (z:=z) (t:=t) cW.out (fun i hi=>by rw[aZ.out];exact eQ.out i hi) x.l (by rw[aU.out,<-aJ];exact ZA3.2 ⟨x,hx,rfl⟩);omega) Qa Qa (by rw[aJ,<-aU.out];exact Zjl cW.out z t));rw[aJ]at hS;rw[aB]at hS |-;have bX:=ZzG (show (Zam np X z t).length<=5/\ZcA (Zam np X z t)/\(Zam np X z t).length=np from⟨by rw[<-aJ,ZAD];omega,by rw[<-aU.out];exact Zjl cW.out z t,by rw[<-aJ,ZAD];exact aB⟩);obtain⟨sl,dH⟩:=Qu (Za2 (Zam np X z t));have aH:=ZzG dH;unfold ZeS at hS;rw[dH]at hS;clear dH dG f aC s aB K aJ;rcases sl with _|⟨l,den⟩
       ·dsimp only at hS;have N:=ZzG (show Za3 np X z t=none by unfold Za3;rw[aH.out]);go_wp2_with (go_at_call 85;refine hS.out.mono ?_;rintro e w2 ⟨rfl,aE⟩;have m:=Zx aE M1;have C1:=bk2 m;have aX:=via E aE);refine bodyPost_ret (v:=.tuple #[.agg #[(0:Int),.slice none 0 0],false]) ?_ rfl ⟨?_,?_⟩;·refine ZaG (p:=2) (u:=3) (ad:=⟨w.heap.size+1,0,none⟩) (v:=.agg #[(0:Int),.slice none 0 0]) rfl Qe (Zag (T:=33) (cs:=[.int .i64 0,.slice none 0 0]) Qb Qb ?_);exact ZL (ZL (m) _ rfl) _ rfl
        ·unfold Ze1;rw[N.out]
        ·first|go_grown|(repeat' (first|assumption|refine ZyV ?_ Qg _))
       ·dsimp only at hS;obtain⟨bW,eF,gF,eM⟩:=Zi1 aH.out bX.out.1 bX.out.2.1;rw[bX.out.2.2]at bW;rw[bW]at hS;have G:=ZzG bW;have bE:=ZzG eM;clear eM bW bX;go_wp2_with (go_at_call 85;refine hS.out.mono ?_;rintro e w2 ⟨⟨v,rfl,hown⟩,aE⟩;obtain⟨aP,J,rfl⟩:=Z2 hown;have m:=Zx aE M1;have C1:=bk2 m;have aX:=via E aE;have N0:=Zx aE M0;have aK:=ZzG hown;clear hown);refine Zbw ?_;intro W8 cY;have aV:QB w2 W8:=by rw[cY];exact ZC _ _
        have cU:W8.heap[w2.heap.size]?=some (.cells #[den,.slice aP np J] 33):=by rw[cY];exact ZA _ _ rfl
        have aA:=ZzG (ZK aK.out aV);have P0:=Zx aV N0;have P1:=Zx aV m;have aY:=via aX aV;obtain⟨Q,hQ⟩:=Qu w2.heap.size;have dW:=ZzG (show ∀r,(Value.slice aP np J).ownBlock=some r->wr.heap.size<=r/\r<Q from fun r e=>by rw[<-hQ];exact aK.out.lt r e);have fG:=ZzG (show wr.heap.size<=Q by rw[<-hQ];exact aE.size);rw[hQ]at cU |-;have hcl:=ZzG fun(W:World)(H:W.ownsRow wr.heap.size 3 1 (.slice aP np J) np (l.map (Value.int .i64))) k (hk:k<np)=>(by
         obtain⟨g,R,h2,h3,h4⟩:=ZcW H (k:=k) (u:=.int .i64 (l.getD k 0)) (by
          have:k<l.length:=by rw[G.out];exact hk
          rw[ZAq,ZAg,ZAm this];rfl);exact⟨g,R,h3,h4⟩:∃g,aP=some ⟨g,0,none⟩/\g<W.heap.size/\W.cell? ⟨g,k,none⟩=some (.int .i64 (l.getD k 0)));have dO:w.heap.size+2<=wr.heap.size:=Qa
        obtain⟨Bs,dN⟩:=Qu wr.heap.size;rw[dN]at aA dW fG hcl dO;clear cY aK M0 M1 N0 m C1 E aX aV aE hS hQ dN;go_loopw [99] (fun i fM=>∃k:Nat,k<=np/\i=.int .i64 k/\Hid (∀j,j<k->¬l.getD j 0<0)/\W8=fM)(fun i _=>np-(intOf i).toNat);case atStart=>exact⟨0,ZB2 _,rfl,fun j hj=>Qa,rfl⟩
        case round=>
         obtain⟨k,hk,rfl,dF,rfl⟩:=hrel;by_cases s:k<np
         ·have bC:(k:Int)<(np:Int):=Qa
          obtain⟨g,rfl,hg,cl⟩:=hcl.out W8 aA.out k s;obtain⟨x,hx⟩:=Qu (l.getD k 0);rw[hx]at cl;have eS:=ZzG hx;clear hx;by_cases eT:x<0
          ·have N:=ZzG (show Za3 np X z t=none by unfold Za3;rw[aH.out];simp only;rw[if_pos (Ztz (k:=k) (by rw[G.out];exact s) (by rw[eS.out];exact eT))]);have C1:=bk2 P1;go_wp2;refine bodyPost_ret (v:=.tuple #[.agg #[(0:Int),.slice none 0 0],false]) ?_ rfl ⟨?_,?_⟩;·refine ZaG (p:=2) (u:=3) (ad:=⟨w.heap.size+1,0,none⟩) (v:=.agg #[(0:Int),.slice none 0 0]) rfl Qe (Zag (T:=33) (cs:=[.int .i64 0,.slice none 0 0]) Qb Qb ?_);exact ZL (ZL (P1) _ rfl) _ rfl
           ·unfold Ze1;rw[N.out]
           ·first|go_grown|(repeat' (first|assumption|refine ZyV ?_ Qg _))
          ·go_wp2;go_roundw;case rel=>exact⟨k+1,Qa,Qj,(fun j hj=>by
            by_cases dC:j=k;·rw[dC,eS.out];exact eT
            ·exact dF.out j Qa),Qr⟩
           case measure=>exact Qv
         ·obtain rfl:np=k:=Qa
          obtain⟨d0,d1,d2,d3,d4⟩:=c0.out _ P0;have cL:=ZzG (show l.any (·<0)=false from ZtA fun k hk=>dF.out k (by rw[G.out]at hk;exact hk));clear dF s;go_wp2;clear d0 d1 d2 d3 d4;go_loopw [111] (fun i eW=>∃k:Nat,k<=en/\i=.int .i64 k/\Hid (∀j,j<k->dotL (X.getD j default).1 l<=(X.getD j default).2*den)/\eW.heap[Q]?=some (.cells #[den,.slice aP np J] 33)/\QB W8 eW)(fun i _=>en-(intOf i).toNat);case atStart=>exact⟨0,ZB2 _,rfl,fun j hj=>Qa,cU,ZyU _ _⟩
          case round=>
           clear cU;obtain⟨k,hk,rfl,bG,bT,aI⟩:=hrel;have aL:=via aY aI;have O:=ZzG (ZK aA.out aI);by_cases s:k<en
           ·have bC:(k:Int)<(en:Int):=Qa
            obtain⟨x,be,oe,rfl,eY,aB,cD,cA,e0,e1,e2,bI,bK,bJ⟩:=fE.out wr aL k s;have cT:=ZzG fun W (hb:QB wr W)=>Ztx x.nm x.A aP x.co l x.c J np x.mo den W (bI.below hb) (ZaA (ZK O.out hb)) aB G.out Qa cD cA (fun y hy=>ZBG (bE.out y hy) Qc) Qa;have cR:=ZzG bK;obtain⟨d,hd⟩:=Qu (decide (dotL x.co l<=x.mo*den));rw[hd]at cT;have eE:=ZzG hd;have cV:=Zz bT (.cells #[.string x.nm,.slice x.A np x.c,x.mo] 76);have D:=bk2 cV;have gM:=ZI bT;clear hd bI aB cD cA bK bJ;cases d with
            |false=>
             have N:=ZzG (show Za3 np X z t=none by unfold Za3;rw[aH.out];simp only;rw[if_neg (by rw[cL.out];decide),if_pos (ZtB (k:=k) (by rw[<-aU.out,Z8,aZ.out];exact s) (by rw[cR.out];exact of_decide_eq_false eE.out))]);go_wp2_with (go_at_call 86;refine(cT.out _ (ZC _ _)).mono ?_;rintro e fL ⟨rfl,aD⟩;have cF:=Zx aD cV;have V:=via (ZC wr (.cells #[.string x.nm,.slice x.A np x.c,x.mo] 76)) aD;have R1:=Zx V (Zx aI P1);have C1:=bk2 R1;have cZ:=via aL V);refine bodyPost_ret (v:=.tuple #[.agg #[(0:Int),.slice none 0 0],false]) ?_ rfl ⟨?_,?_⟩;·refine ZaG (p:=2) (u:=3) (ad:=⟨w.heap.size+1,0,none⟩) (v:=.agg #[(0:Int),.slice none 0 0]) rfl Qe (Zag (T:=33) (cs:=[.int .i64 0,.slice none 0 0]) Qb Qb ?_);exact ZL (ZL (R1) _ rfl) _ rfl
             ·unfold Ze1;rw[N.out]
             ·first|go_grown|(repeat' (first|assumption|refine ZyV ?_ Qg _))
            |true=>
             go_wp2_with (go_at_call 86;refine(cT.out _ (ZC _ _)).mono ?_;rintro e fL ⟨rfl,aD⟩;have cF:=Zx aD cV;have V:=via (ZC wr (.cells #[.string x.nm,.slice x.A np x.c,x.mo] 76)) aD;have R1:=Zx V (Zx aI P1);have C1:=bk2 R1;have cZ:=via aL V);go_roundw;case rel=>exact⟨k+1,Qa,Qj,(fun j hj=>by
              by_cases dC:j=k;·rw[dC,cR.out];exact of_decide_eq_true eE.out
              ·exact bG.out j Qa),cF,via aI V⟩
             case measure=>exact Qv
           ·obtain rfl:en=k:=Qa
            have bM:Za3 np X z t=some (l.map (· / (gcdL 0 (den::l):Int)),den / (gcdL 0 (den::l):Int)):=by unfold Za3;rw[aH.out];simp only;rw[if_neg (by rw[cL.out];decide),if_neg (by rw[ZtC fun j hj=>bG.out j (by rw[<-aU.out,Z8,aZ.out]at hj;exact hj)];decide)]
            have bU:=(ZcT (den::l) 0).2;have eX:0<gcdL 0 (den::l):=ZcU den Qd Qa;have bP:=ZzG fun A c w' hA=>ZiT A (den::l) c w' hA (by simp only[ZAB];rw[G.out];omega) (by
             intro x hx;rcases ZAX.1 hx with rfl|hx;·exact ZBG eF Qc
             ·exact ZBG (bE.out x hx) Qc);have cJ:(den::l).length=1+np:=by simp only[ZAB];rw[G.out];omega
            rw[cJ]at bP;obtain⟨gI,eI⟩:∃gI:Int,((gcdL 0 (den::l):Nat):Int)=gI:=⟨_,rfl⟩;rw[eI]at bM bU bP;have eH:0<gI:=Qa
            have fA:¬gI=0:=Qa
            have gJ:(gI==0)=false:=by simpa using fA
            have dI:IntKind.i64.wrap (den.tdiv gI)=den / gI:=Zdg eH (bU den Qd) eF Qc;have fH:=ZzG fun j (hj:j<np)=>(Zdg eH (bU (l.getD j 0) (by
             have bB:j<l.length:=by rw[G.out];exact hj
             rw[ZAg,ZAm bB];exact ZAY _ (ZAy bB))) (bE.out.get j) Qc:IntKind.i64.wrap ((l.getD j 0).tdiv gI)=l.getD j 0 / gI);have bN:=ZzG bM;have bD:=ZzG fun(x:World)=>(⟨rfl,.inr ⟨x.heap.size,1,#[.int .i64 den],rfl,ZBF _,ZA _ _ rfl,ZBF _,Qc,rfl,rfl⟩⟩:(x.alloc (.cells #[den] 3)).ownsRow x.heap.size 3 1 (.slice (some x.heap.size) 1 1) 1 [.int .i64 den]);obtain⟨g,rfl,fQ,-⟩:=hcl.out wr O.out 0 (by have:=aO.out;omega);have dX:=ZzG (dW.out g rfl);clear bM bU eX eI cJ bG s;go_wp2_with (at_builtin;refine wpList_append_own _ rfl _ _ 31 rfl wr.heap.size 3 i0 (.int .i64 0) 1 8 underlying31 hi dJ dK dL rfl Qc _ _ _ rfl (bD.out wr) ⟨g,0,none⟩ np J (l.map (Value.int .i64)) rfl ?c0 ?c1 ?c2 ?c3 ?c4 ?c5 ?_);case c0=>rw[ZAD,G.out,ZBR]
            case c1=>
             intro j u hu;obtain⟨g',e1,-,-,e2⟩:=ZcW (ZK O.out (ZC wr (.cells #[den] 3))) hu;cases e1;have e:Addr.add ⟨g,0,none⟩ j=⟨g,j,none⟩:=by unfold Addr.add;split<;>simp_all
             rw[e];exact e2
            case c2=>intro u hu;obtain⟨y,-,rfl⟩:=ZA3.1 hu;rfl
            case c3=>unfold maxLen;omega
            case c4=>omega
            case c5=>simp
            intro v4 w4 I aG _;obtain⟨A4,c4,rfl⟩:=Z2 I;have aM:QB wr w4:=ZT (ZC wr _) aG fun b e=>by cases e;exact ZBF _
            have cH:=ZzG (show At 1 Zc w4 A4 (den::l)from ZaA (l:=den::l) I);have dQ:=ZzG (ZK O.out aM);have dU:=Zx aM bT;have cI:=via aI aM;clear I aG aM O bT aI aL;go_wp2_with (go_at_call 62;refine(bP.out _ _ _ cH.out).mono ?_;rintro e w5 ⟨rfl,U⟩;have bS:=Zx U dU;have D:=bk2 bS);have dR:=ZzG (ZK dQ.out U);have aW:=via cI U;have R1:=Zx aW P1;have aF:=via aY aW;obtain⟨fN,fO⟩:=dX.out;have fU:=ZI bS;clear dQ dU cI U cH bP bD D aW P0 P1 aA aY;go_loopw [129] (fun i wr=>∃k:Nat,k<=np/\i=.int .i64 k/\Hid (wr.ownsRow Bs 3 1 (.slice (some g) np J) np (((l.take k).map (· / gI)++l.drop k).map (Value.int .i64)))/\wr.heap[Q]?=some (.cells #[den,.slice (some g) np J] 33)/\wr.heap[w.heap.size+1]?=some (.cells #[(0:Int),.slice none 0 0] 33)/\QB w wr)(fun i _=>np-(intOf i).toNat);case atStart=>exact⟨0,ZB2 _,rfl,ZzG (by simpa using dR.out),bS,R1,aF⟩
            case round=>
             clear dR bS R1 aF;obtain⟨k,hk,rfl,aR,dV,R1,Y⟩:=hrel;have D:=bk2 dV;by_cases s:k<np
             ·have bC:(k:Int)<(np:Int):=Qa
              have dD:k<l.length:=by rw[G.out];exact s
              obtain⟨g',e1,gG,gH,ci⟩:=ZcW aR.out (k:=k) (u:=.int .i64 (l.getD k 0)) (by rw[ZAq,Zme dD];rfl);cases e1;have fi:=Ztw aR.out k;have cS:=ZzG (Ztv aR.out s (.int .i64 (l.getD k 0 / gI)));have cN:(((l.take k).map (· / gI)++l.drop k).map (Value.int .i64)).set k (.int .i64 (l.getD k 0 / gI))=((l.take (k+1)).map (· / gI)++l.drop (k+1)).map (Value.int .i64):=by rw[<-Zmd dD,List.map_set]
              rw[cN]at cS;have fI:=fH.out k s;obtain⟨y,hy⟩:=Qu (l.getD k 0);rw[hy]at ci fI cS;clear hy dD cN aR;go_wp2;go_roundw;case rel=>exact⟨k+1,Qa,Qj,cS.out,ZB dV Qg _,ZB R1 Qg _,Y.setCell Qg _⟩
              case measure=>exact Qv
             ·obtain rfl:np=k:=Qa
              have dS:=ZzG aR.out;rw[show l.take np=l by rw[<-G.out,ZBo],show l.drop np=[]by rw[<-G.out,List.drop_length],ZzO]at dS;have C1:=bk2 R1;clear aR;have eN:w.heap.size+1≠Q:=Qa
              have fS:Q≠w.heap.size+1:=Qa
              have eO:g≠Q:=Qa
              have cK:g≠w.heap.size+1:=Qa
              obtain⟨d2,eZ⟩:=Qu (den / gI);rw[eZ]at dI bN;go_wp2;refine bodyPost_ret (v:=.tuple #[.agg #[d2,.slice (some g) np J],true]) ?_ rfl ⟨?_,?_⟩;·refine ZaG (p:=2) (u:=3) (ad:=⟨w.heap.size+1,0,none⟩) (v:=.agg #[d2,.slice (some g) np J]) rfl Qe (Zag (T:=33) (cs:=[.int .i64 d2,.slice (some g) np J]) Qb Qb ?_);exact ZL (ZL (ZB R1 eN _) _ rfl) _ rfl
              ·unfold Ze1;rw[bN.out];refine⟨_,_,rfl,ZaN (Zaq dS.out fun r e=>?_) (ZBG Qa dO)⟩;cases e;rw[ZyT _ _ _ _ cK,ZyT _ _ _ _ cK,ZyT _ _ _ _ eO]
              ·exact((Y.setCell Qg _).setCell Qg _).setCell Qg _
end Go.Proofs
namespace Go.Proofs
open Tryz
open Go.RowKit
attribute [local go_sem] Oper.semAt_some def SI(n k:Nat)(M:Nat->Prop)(w:World)(J:List ChV->(Nat->Prop)->World->Prop)(W0 B O Q:Nat)(f:Nat)(wr:World):Prop:=∃i l t T,f+i=(cmb 0 n k).length/\ChI n k M w J W0 B O Q i l wr t T
theorem ZtE(m n k:Nat)(hkn:k<=n)(hn:n<=1000)(O Q:Nat)(M:Nat->Prop)(w:World)(h1:w.heap[O]?=some (.cells #[k] 3))(h2:w.heap[Q]?=some (.cells #[n] 3))(hM1:¬M O)(hM2:¬M Q)(hMw:∀j,M j->j<w.heap.size):Zmz Fence.wide m prog 84 #[.pointer (some O),.pointer (some Q)] Zjc gvN M (fun t x W=>(t++[x]).map ChV.l<+:cmb 0 n k/\ZM 3 W x.b (ZN x.l)/\x.l.length=k)
   (fun xs=>xs.map ChV.l=cmb 0 n k) (fun t=>t.map ChV.l<+:cmb 0 n k) (cmb 0 n k).length w:=by
 intro l J Jx W hW dO cJ hJ cE hY h0;have dY:=hW.size;have g1:=hW.block O (ZI h1);have g2:=hW.block Q (ZI h2);rw[h1]at g1;rw[h2]at g2;have dH:=ZI h1;have dI:=ZI h2;have cN:=ZzG (ZdG k Qa);have bP:=cN.out;have G1:=bk1 g1;have S:=ZzG hJ;have cF:=ZzG hMw;have cG:=ZzG hY;have bI:=ZzG hM1;have bJ:=ZzG hM2;have cC:=ZzG h0;have cK:=ZzG (ZeN 0 n k);have aG:=ZzG (ZiE 0 n k hkn);have aC:=ZzG fun i l h=>ZiF 0 n k (n-k) Qa i l h;have bO:=ZzG hkn;have bW:k<=1000:=Qa
 clear h0 hJ cE hY hM1 hM2 hMw h1 h2 hkn;refine callsIn_of_wp func84 rfl trivial ?_;simp only[ntmps84,ZBl,ZAB,ZAE,Nat.reduceAdd,Nat.reduceSub,Array.replicate_succ,Array.replicate_zero,List.push_toArray,ZzP,ZBb,ZzR];gi_wp2_with fail;clear bP G1;gi_loopw [12] (fun i wr=>∃j:Nat,j<=k/\i=.int .i64 j/\ZM 3 wr W.heap.size (Zdj k j)/\W.grownBy wr none/\W.heap.size<wr.heap.size)(fun i _=>k-(intOf i).toNat);case atStart=>exact⟨0,ZB2 _,rfl,by have:=ZM.new (T:=3) W (List.replicate k 0);simpa [Zdj,ZN] using this,World.grownBy_alloc W _ none,Qd⟩
 case round=>
  obtain⟨j,hj,rfl,hm,hg,bD⟩:=hrel;by_cases aY:j<k
  ·have dM:(j:Int)<(k:Int):=Qa
   have cj:=hm.loadD (k:=j) (by rw[Zs0 hj];exact aY);have fj:=hm.frozen j;have cL:=ZzG (hm.store j (j:Int));have dN:IntKind.i64.wrap ((j:Int)+1)=((j+1:Nat):Int):=by rw[Int.natCast_add];exact ZzE _ Qa
   gi_wp2;go_roundw;case rel=>have:=cL.out;rw[ZsZ aY]at this;exact⟨j+1,Qa,Qj,this,⟨hg.os,hg.tape,hg.output,by simp;exact hg.size,fun i hi _=>(ZyT wr _ _ i Qk).trans (hg.block i hi Qd)⟩,by simpa using bD⟩
   case measure=>exact Qv
  ·obtain rfl:j=k:=Qa
   rw[Zs1]at hm;have bH:SI n j M w J W.heap.size W.heap.size O Q (cmb 0 n j).length wr:=⟨0,_,[],fun _=>False,Qa,rfl,rfl,aG.out,hm,S.out _ _ _ _ none cC.out hg (fun r e=>by cases e),fun r h=>h.elim,(hg.block _ (ZI g1) Qd).trans g1,(hg.block _ (ZI g2) Qd).trans g2,ZBF _,bD⟩;obtain⟨SX,aU⟩:∃SX:Nat->World->Prop,SX=fun f wr=>SI n j M w J W.heap.size W.heap.size O Q f wr:=⟨_,rfl⟩;have aK:Hid (∀f wr,SX f wr->SI n j M w J W.heap.size W.heap.size O Q f wr):=by rw[aU];exact fun _ _ h=>h
   have V:Hid (∀f wr,SI n j M w J W.heap.size W.heap.size O Q f wr->SX f wr):=by rw[aU];exact fun _ _ h=>h
   have R:=ZzG bH;obtain⟨o,aV⟩:=Qu W.heap.size;rw[aV]at aK V R cJ;have dC:=ZzG aV;rw[aV];clear aU bH hm hg bD aY g1 g2;gi_wp2;gi_loopw [6] (fun _ wr=>∃f,SX f wr)(fun _ wr=>leastOf fun f=>SX f wr);case atStart=>exact⟨_,V.out _ _ R.out⟩
   case round=>
    clear R;obtain⟨f,hf⟩:∃f,(leastOf fun f=>SX f wr)=f:=⟨_,rfl⟩;have aX:=(leastOf_spec hrel).1;rw[hf]at aX;have cI:=ZzG hf;clear hf hrel;obtain⟨i,L,t,T,dK,hc⟩:=aK.out _ _ aX;clear aX;obtain⟨aO,aP,z,aD,bT,aJ,bE,bF,bU⟩:=hc;have C1:=bk1 bE;have C2:=bk1 bF;have aT:=cK.out L (ZA5 z);have dL:i<(cmb 0 n j).length:=(ZAp.1 z).1;have bC:(t++[(⟨o,L⟩:ChV)]).map ChV.l=(cmb 0 n j).take (i+1):=by rw[ZAL,aP,ZBn,z];rfl
    have bB:(t++[(⟨o,L⟩:ChV)]).map ChV.l<+:cmb 0 n j:=by rw[bC];exact List.take_prefix _ _
    obtain⟨fn,tm,bX,bY,N,hR⟩:=cG.out t T ⟨o,L⟩ wr bT (fun r hr=>⟨by have:=(aJ r hr).1;omega,(aJ r hr).2.1⟩) (fun y _ r hr=>hr.elim) Qa ⟨bB,aD,aT⟩;have cY:(Instr.yield l #[.slice (some o) j j]).run prog wr=.ok (.round l fn tm bX bY) wr:=by have:=N;simp only[Zjc,aT]at this;exact this
    have bK:=ZzG hR;have dP:(j:Int)<=(n:Int):=by have:=bO.out;omega
    have aL:=ZzG bC;have bR:=ZzG bB;have aF:=ZzG aJ;have aE:=ZzG aD;have aM:=ZzG bE;have aN:=ZzG bF;have I:=ZzG z;have dG:=bU.2;have bG:=ZzG aO;clear N hR bC bB aP bT aJ aD z bE bF bU aO;gi_wp2_with fail;clear cY C1 C2;refine⟨fun h=>(by cases h),bK.out.mono ?_⟩;clear bK;rintro e w4 ⟨T',t1,t2,aA,(⟨rfl,U⟩|⟨rfl,U⟩)⟩
    ·have bL:∀r,T' r->o<=r/\r<w4.heap.size/\r≠o:=fun r hr=>by
      have h2:=t2 r hr;rcases t1 r hr with h|h;·have:=aF.out r h;omega
      ·omega
     have aH:∀b,(b=o∨b=O∨b=Q)->¬(M b∨T b∨b=l):=by
      rintro b hb (h|h|h)
      ·rcases hb with rfl|rfl|rfl;·have:=cF.out _ h;omega
       ·exact bI.out h
       ·exact bJ.out h
      ·have:=aF.out b h;omega
      ·omega
     have aQ:=aE.out.grown aA (aH o (.inl rfl));have q1:=aA.obj (aH O (.inr (.inl rfl))) aM.out;have q2:=aA.obj (aH Q (.inr (.inr rfl))) aN.out;have D1:=bk1 q1;have D2:=bk1 q2;obtain⟨m0,aZ⟩:=Qu (n-j);have cQ:IntKind.i64.wrap ((j:Int)-1)=(j:Int)-1:=ZzE _ Qa;have K:=ZzG U;have X:=ZzG bL;clear aA t1 t2 U bL aH aE aM aN aF;gi_wp2;gi_loopw [6] (fun aR wi=>∃a:Nat,a<=j/\aR=.int .i64 ((a:Int)-1)/\Hid (∀q y,a<=q->L[q]?=some y->y=m0+q)/\QB w4 wi)(fun aR _=>(intOf aR+1).toNat);case atStart=>exact⟨j,ZBF _,rfl,fun q y hq N=>by have:=(ZAp.1 N).1;omega,ZyU _ _⟩
     case round=>
      obtain⟨a,ha,rfl,u,G⟩:=hrel;have r1:=Zx G q1;have r2:=Zx G q2;have D:=aQ.below G;have E1:=bk1 r1;have E2:=bk1 r2;have dV:IntKind.i64.wrap ((n:Int)-(j:Int))=(m0:Int):=by rw[ZzE _ Qa];omega
      rcases a with _|b
      ·have e0:((0:Nat):Int)-1=-1:=rfl;rw[e0];have cO:decide ((0:Int)<=-1)=false:=rfl;gi_wp2;refine wpIn_wide.2 ?_;refine Zbr w4 Qb Qb G ?_;intro Z Y;repeat (go_big_quiet_step (fail))
       refine wpQuiet_nil ?_;intro wb s d H;clear Z Y;have aS:=ZzG (S.out _ _ _ _ none K.out (ZmB d) (fun r e=>by cases e));have bN:Hid (i+1=(cmb 0 n j).length):=by have h1:=aC.out i L I.out;rw[ZiG (n-j) L (fun q x hx=>by rw[aZ];exact u.out q x (ZB2 _) hx)]at h1;have:=ZAo.1 h1.symm;show _=_;omega
       gi_wp2;refine bodyPost_ret (results_none rfl _ _ _) rfl ?_;exact⟨⟨_,rfl⟩,.inl ⟨_,T',by rw[aL.out,bN.out,ZBo],aS.out⟩⟩
      ·have e0:((b+1:Nat):Int)-1=(b:Int):=Qa
       rw[e0];obtain⟨x,hx⟩:∃x,L[b]?=some x:=⟨_,ZAm Qa⟩;have cx:=D.load (ZcE hx);have eA:x<n:=(Asc.lt (Zeb 0 n j L (ZA5 I.out)) x (ZA5 hx)).2|>fun h=>Qa
       have dJ:(b:Int)<(j:Int):=Qa
       have cO:decide ((0:Int)<=(b:Int))=true:=Qd
       have dE:IntKind.i64.wrap ((m0:Int)+(b:Int))=(m0:Int)+(b:Int):=ZzE _ Qa;have eB:=D.size;by_cases aI:x=m0+b
       ·have cV:((x:Int)==(m0:Int)+(b:Int))=true:=Qk
        have bA:=ZzG (show ∀q y,b<=q->L[q]?=some y->y=m0+q from fun q y hq N=>by
         rcases Nat.eq_or_lt_of_le hq with rfl|hq;·rw[hx]at N;cases N;exact aI
         ·exact u.out q y hq N);have cR:IntKind.i64.wrap ((b:Int)-1)=(b:Int)-1:=ZzE _ Qa;clear aI u hx;gi_wp2;refine wpIn_wide.2 ?_;refine Zbr w4 Qb Qb G ?_;intro Z Y;repeat (go_big_quiet_step (fail))
        refine wpQuiet_nil ?_;intro wb s d H;clear Z Y;gi_wp2;go_roundw;case rel=>exact⟨b,Qa,rfl,bA.out,d⟩
        case measure=>exact Qv
       ·have cV:((x:Int)==(m0:Int)+(b:Int))=false:=Qk
        have cS:IntKind.i64.wrap ((x:Int)+1)=(x:Int)+1:=ZzE _ Qa;have cW:=ZzG (show ((x:Int)+1)=((x+1:Nat):Int)by omega);have cR:IntKind.i64.wrap ((b:Int)+1)=((b+1:Nat):Int):=by rw[ZzE _ Qa];omega
        have cP:=ZzG ((ZlR (n-j) L b x hx (by rw[aZ];exact aI) (fun q y hq N=>by rw[aZ];exact u.out q y Qa N)).symm.trans (aC.out i L I.out));have cU:=ZzG hx;have cM:=ZzG D;have eC:=ZzG r1;have eD:=ZzG r2;clear aI u hx cQ;gi_wp2;refine wpIn_wide.2 ?_;refine Zbr w4 Qb Qb G ?_;intro Z Y;repeat (go_big_quiet_step (fail))
        refine wpQuiet_nil ?_;intro wb s d H;clear Z Y;have s1:=Zx s r1;have s2:=Zx s r2;have E:=D.below s;have F1:=bk1 s1;have F2:=bk1 s2;have bZ:=E.load (ZcE cU.out);have cA:=E.frozen b;have aS:=ZzG (S.out _ _ _ _ none K.out (ZmB d) (fun r e=>by cases e));have dZ:=E.size;clear E1 E2 r1 r2 D cx aQ q1 q2 D1 D2;have cH:b<L.length:=Qa
        have bV:=ZzG (show ZM 3 (wb.setCell ⟨o,b,none⟩ (.int .i64 ((x:Int)+1))) o (ZN (ZbV L b x (b+1)))from by rw[<-Zs2 cH,<-ZmA,cW.out];exact E.store b _);have dA:=ZzG (ZB s1 (p:=⟨o,b,none⟩) Qg (.int .i64 ((x:Int)+1)));have dB:=ZzG (ZB s2 (p:=⟨o,b,none⟩) Qg (.int .i64 ((x:Int)+1)));have cD:=ZzG (S.out _ _ _ _ (some o) aS.out (ZmC wb o b (.int .i64 ((x:Int)+1))) (fun r e=>by cases e;exact⟨Qa,fun h=>(X.out _ h).2.2 rfl,fun y _ h=>h⟩));gi_wp2;have dD:(wb.setCell ⟨o,b,none⟩ (.int .i64 ((x:Int)+1))).heap.size=wb.heap.size:=Qd
        generalize wb.setCell ⟨o,b,none⟩ (.int .i64 ((x:Int)+1))=w5 at*;have bM:=ZzG (fun r hr=>by have h1:=X.out r hr;have h2:=d.size;exact⟨h1.1,Qa,h1.2.2⟩:∀r,T' r->o<=r/\r<w5.heap.size/\r≠o);clear s1 s2 F1 F2 E bZ cA s d H G cS;gi_loopw [7] (fun q_ wi=>∃q:Nat,b<q/\q<=j/\q_=.int .i64 q/\Hid (ZM 3 wi o (ZN (ZbV L b x q))/\wi.heap[O]?=some (.cells #[j] 3)/\wi.heap[Q]?=some (.cells #[n] 3)/\J (t++[⟨o,L⟩]) T' wi/\wi.heap.size=w5.heap.size))(fun q_ _=>j-(intOf q_).toNat);case atStart=>exact⟨b+1,Qa,Qa,rfl,bV.out,dA.out,dB.out,cD.out,rfl⟩
        case round=>
         obtain⟨q,aW,dU,rfl,bQ⟩:=hrel;obtain⟨u0,u1,u2,u3,u4⟩:=bQ.out;clear bQ;have E1:=bk1 u1;by_cases bS:q<j
         ·have dS:(q:Int)<(j:Int):=Qa
          obtain⟨p,rfl⟩:∃p,q=p+1:=⟨q-1,Qa⟩;have dR:((p+1:Nat):Int)-1=(p:Int):=Qa
          have dW:IntKind.i64.wrap (((p+1:Nat):Int)-1)=(p:Int):=by rw[ZzE _ Qa];omega
          have dQ:(p:Int)<(j:Int):=Qa
          have cq:=u0.load (ZcE (by have:=Zs5 (l:=L) (x:=x) aW Qa;rwa [ZBx]at this));have cX:x+(p+1-b)<=2000:=Qa
          obtain⟨y,N⟩:=Qu (x+(p+1-b));rw[N]at cq cX;have cT:IntKind.i64.wrap ((y:Int)+1)=((y+1:Nat):Int):=by rw[ZzE _ Qa];omega
          have dX:IntKind.i64.wrap (((p+1:Nat):Int)+1)=((p+1+1:Nat):Int):=by rw[ZzE _ Qa];omega
          have cs:=u0.loadD (k:=p+1) (by rw[ZcD,Zs4 aW Qa];omega);have fs:=u0.frozen (p+1);have cZ:=ZzG (show ((y:Int)+1)=((y+1:Nat):Int)by omega);have v0:=ZzG (show ZM 3 (wr.setCell ⟨o,p+1,none⟩ (.int .i64 ((y:Int)+1))) o (ZN (ZbV L b x (p+1+1)))from by have:=Zs3 (l:=L) (x:=x) aW Qa;rw[N]at this;rw[<-this,<-ZmA,cZ.out];exact u0.store (p+1) _);have v1:=ZzG (ZB u1 (p:=⟨o,p+1,none⟩) Qg (.int .i64 ((y:Int)+1)));have v2:=ZzG (ZB u2 (p:=⟨o,p+1,none⟩) Qg (.int .i64 ((y:Int)+1)));have vJ:=ZzG (S.out _ _ _ _ (some o) u3 (ZmC wr o (p+1) (.int .i64 ((y:Int)+1))) (fun r e=>by cases e;exact⟨Qa,fun h=>(X.out _ h).2.2 rfl,fun y _ h=>h⟩));have dF:IntKind.i64.wrap ((y:Int)+1)=(y:Int)+1:=ZzE _ Qa;clear cT N u0 u1 u2 u3;gi_wp2;go_roundw;case rel=>exact⟨p+1+1,Qa,Qa,rfl,v0.out,v1.out,v2.out,vJ.out,by simpa using u4⟩
          case measure=>exact Qv
         ·obtain rfl:q=j:=Qa
          have aB:=ZzG (V.out (f-1) wr ⟨i+1,ZbV L b x q,t++[⟨o,L⟩],T',Qa,⟨by rw[ZAA,bG.out];rfl,aL.out,by have:=cP.out;rw[<-this,<-aT,Zs6],u0,u3,fun r hr=>by rw[u4];exact bM.out r hr,u1,u2,ZBF _,u0.size⟩⟩);clear u0 u1 u2 u3 bS;gi_wp2;refine⟨⟨f-1,aB.out⟩,?_⟩;rw[cI.out];exact Nat.lt_of_le_of_lt ((leastOf_spec (p:=fun f=>SX f wr) ⟨f-1,aB.out⟩).2 (f-1) aB.out) Qa
    ·have K:=ZzG U;clear aA U t1 t2;gi_wp2;refine bodyPost_ret (results_none rfl _ _ _) rfl ?_;exact⟨⟨_,rfl⟩,.inr ⟨_,T',bR.out,K.out⟩⟩
end Go.Proofs
namespace Go.Proofs
open Tryz
open Go.RowKit
theorem ZmZ:(Z3 (.slice none 0 0) (.slice none 0 0) (.slice none 0 0) (.slice none 0 0) [] []).toArray=#[.slice none 0 0,.slice none 0 0,.slice none 0 0,.slice none 0 0,.bool false,.bool false,.bool false,.bool false,.bool false,.bool false,.bool false,.bool false,.bool false,.bool false,.bool false,.bool false,.bool false]:=by simp[Z3,boolL,ZBh]
theorem ZtF(pv d:Value):(Z3 pv d (.slice none 0 0) (.slice none 0 0) [] []).toArray=#[pv,d,.slice none 0 0,.slice none 0 0,.bool false,.bool false,.bool false,.bool false,.bool false,.bool false,.bool false,.bool false,.bool false,.bool false,.bool false,.bool false,.bool false]:=by simp[Z3,boolL,ZBh]
theorem Zm0(n:Nat)(z:List Nat):∀u∈boolL n z,u.oneCell'=true:=by intro u d;obtain⟨i,-,rfl⟩:=ZA3.1 d;rfl
theorem Zjn{pv f i h:Value} {z t:List Nat} (m:pv.oneCell'=true)(o:f.oneCell'=true)(p:i.oneCell'=true)(h4:h.oneCell'=true):∀u∈Z3 pv f i h z t,u.oneCell'=true:=by
 intro u d;simp only[Z3,ZAX,ZAU]at d;rcases d with rfl|rfl|rfl|rfl|d|d;·exact m
 ·exact o
 ·exact p
 ·exact h4
 ·exact Zm0 _ _ _ d
 ·exact Zm0 _ _ _ d
theorem ZtG(O I A:Option Addr)(d Q E J cl:Nat)(l:List Nat)(w:World)(hl:At 1 Zc w A (ZN l))(V:Asc 0 (d+E) l)(hp:d<=5)(he:E<=8):Calls prog 59 #[.agg #[.slice O d Q,.slice I E J],.slice A l.length cl] w fun e w'=>(∃zv tv,e=.returned (.agg (Z3 (.slice O d Q) (.slice I E J) zv tv (zerosL d l) (tightL d l)).toArray)/\w'.ownsRow w.heap.size 3 1 zv (zerosL d l).length ((ZN (zerosL d l)).map (Value.int .i64))/\w'.ownsRow w.heap.size 3 1 tv (tightL d l).length ((ZN (tightL d l)).map (Value.int .i64)))/\QB w w':=by
 have bR:l.length<=13:=by
  have:∀(l:List Nat)(a b:Nat),Asc a b l->l.length<=b-a:=by intro l;induction l with|nil=>intro a b _;exact ZB2 _|cons x t ih=>intro a b h;have h1:=ih (x+1) b h.2.2;have h2:=h.1;have h3:=h.2.1;simp only[ZAB];omega
  have:=this l 0 _ V;omega
 have gl:=ZzG fun W (hb:QB w W) k (hk:k<l.length)=>Zan (hl.below hb) (k:=k) (by rw[ZcD];exact hk);have aV:=ZzG fun x hx=>(Asc.lt V x hx).2;obtain⟨N,hN⟩:=Qu l.length;have bC:=ZzG hN;rw[hN]at gl bR |-;obtain⟨i0,hi,bK,bL,bM⟩:=info_parts info3;have L:∀x,(sizeOf 116).run prog x=.ok 17 x:=fun x=>Qb
 have aL:∀x,(isAgg 116).run prog x=.ok true x:=fun x=>Qb
 obtain⟨ZF,aU⟩:=Qu (zerosL d l);obtain⟨TF,aT⟩:=Qu (tightL d l);rw[aU,aT];have aK:=ZzG aU;have aJ:=ZzG aT;clear hl V hN aU aT;go_enter func59,ntmps59;go_wp2_with (refine ZaC Qh (.tmp 5) (.tmp 10) 116 Qh (w.heap.size+2) (Z3 (.slice O d Q) (.slice I E J) (.slice none 0 0) (.slice none 0 0) [] []) (Z3 (.slice none 0 0) (.slice none 0 0) (.slice none 0 0) (.slice none 0 0) [] []) 116 ?sp ?sq (L _) ?sb rfl (Zjn rfl rfl rfl rfl) ?_);case sp=>rfl
 case sq=>rw[ZtF];rfl
 case sb=>rw[ZmZ];exact Qs
 intro w1 aN aG aO;have M0:w1.heap[w.heap.size]?=some (.cells #[.slice O d Q,.slice I E J] 25):=Zaz aG (Qs) Qf;have bD:QB w w1:=ZT (via (ZC _ _) (via (ZC _ _) (ZC _ _))) aG (fun b e=>by have:=ZB9 e;omega);have bS:w1.heap.size=w.heap.size+3:=by simpa using aO
 have aB:Hid (∃c,w1.heap[w.heap.size+1]?=some (.cells c 116)/\c.size=17):=ZzG ⟨_,Zaz aG (Qs) Qf,rfl⟩;clear aG aO;go_wp2;go_loopw [13] (fun i wr=>∃k:Nat,k<=N/\i=.int .i64 k/\wr.heap[w.heap.size]?=some (.cells #[.slice O d Q,.slice I E J] 25)/\Hid (∃c,wr.heap[w.heap.size+1]?=some (.cells c 116)/\c.size=17)/\Hid (∃zv tv,BasI (w.heap.size+3) (w.heap.size+2) (.slice O d Q) (.slice I E J) (zerosL d (l.take k)) (tightL d (l.take k)) zv tv wr)/\QB w wr/\w.heap.size+3<=wr.heap.size) (fun i _=>N-(intOf i).toNat);case atStart=>exact⟨0,ZB2 _,rfl,M0,aB.out,⟨.slice none 0 0,.slice none 0 0,aN,World.ownsRow_nil _ _ _ _,World.ownsRow_nil _ _ _ _,fun g h=>by cases h⟩,bD,Qa⟩
 case round=>
  clear M0 aN bD bS aB;obtain⟨k,hk,rfl,M0,hr,aM,aF,bX⟩:=hrel;obtain⟨zv,tv,hB⟩:=aM.out;obtain⟨Bk,Bz,Bt,aP⟩:=hB;obtain⟨zA,zc,rfl⟩:=Z2 Bz;obtain⟨tA,tc,rfl⟩:=Z2 Bt;have C0:=bk2 M0;have CB:=Zje Bk;clear aM;by_cases aX:k<N
  ·have bW:(k:Int)<(N:Int):=Qa
   obtain⟨b,o,rfl,bV,ck⟩:=gl.out wr aF k aX;obtain⟨x,hx⟩:∃x,l[k]?=some x:=⟨_,ZAm (by rw[bC.out];exact aX)⟩;have bJ:(ZN l).getD k 0=(x:Int):=by rw[ZAg,ZcE hx];rfl
   rw[bJ]at ck;have cD:=aV.out x (ZA5 hx);have aZ:l.take (k+1)=l.take k++[x]:=by rw[ZBn,hx];rfl
   have aI:=ZzG (show zerosL d (l.take (k+1))=if x<d then zerosL d (l.take k)++[x]else zerosL d (l.take k)by rw[aZ,Ztb]);have aC:=ZzG (show tightL d (l.take (k+1))=if x<d then tightL d (l.take k)else tightL d (l.take k)++[x-d]by rw[aZ,Ztc]);clear aZ;have cE:(zerosL d (l.take k)).length<=13:=ZBG (ZAC _ _) Qk;have bY:(tightL d (l.take k)).length<=13:=by unfold tightL;rw[ZAD];exact ZBG (ZAC _ _) Qk
   generalize zerosL d (l.take k)=Z at*;generalize tightL d (l.take k)=T at*;have p:=ZzG Bz;have m:=ZzG Bt;have z:=ZzG Bk;have s:=ZzG aP;clear bJ hx Bz Bt Bk aP;by_cases D:x<d
   ·have bT:(x:Int)<(d:Int):=Qa
    have cA:(x:Int)<5:=Qa
    have aD:x<5:=Qa
    have cz:=ZaQ z.out (Zjd (.slice O d Q) (.slice I E J) (.slice zA Z.length zc) (.slice tA T.length tc) Z T x aD);have fz:=ZeX z.out (4+x);go_wp2_with (at_builtin;refine wpList_append_lies _ rfl _ _ 31 rfl (w.heap.size+3) 3 i0 (.int .i64 0) 1 8 underlying31 hi bK bL bM rfl Qc _ _ _ rfl (p.out.alloc _) ⟨wr.heap.size,0,none⟩ 1 1 [.int .i64 (x:Int)] rfl rfl ?c1 ?c2 Qc ?c3 ?c4 ?c5 (wr.heap.size+1) ?c6 ?_);case c1=>exact Zbd _ [.int .i64 (x:Int)] _ Qd
    case c2=>intro u hu;simp at hu;subst hu;rfl
    case c3=>unfold maxLen;omega
    case c4=>omega
    case c5=>simp;omega
    case c6=>simp
    intro g G w3 H f aA bF;have bQ:=(H.lt g rfl).1;have r:=Zaz f (Zz z.out _) (Zay p.out Qa);have M3:=Zaz f (Zz M0 _) (Zay p.out Qa);have aQ:=ZzG (ZeR (ZK m.out (ZC _ _)) f fun g' R S=>s.out g' S.symm R);have aY:Hid (∃c,w3.heap[w.heap.size+1]?=some (.cells c 116)/\c.size=17):=by obtain⟨c,h1,h2⟩:=hr.out;exact⟨c,Zaz f (Zz h1 _) (Zay p.out Qa),h2⟩
    have aS:=ZzG (show ∀g',(Value.slice (some g) (Z.length+1) G).ownBlock=some g'->(Value.slice tA T.length tc).ownBlock≠some g' from fun g' R S=>by
     cases R;rcases aA with h|h;·exact s.out g h S
     ·have:=(m.out.lt g S).2;omega);have X:QB w w3:=ZT (via aF (ZC _ _)) f fun b e=>by have:=(p.out.lt b e).1;omega
    have bI:wr.heap.size+1<=w3.heap.size:=by have:=f.size;simpa using this
    have bN:=Zje r;have bO:=ZaQ r (Zjd (.slice O d Q) (.slice I E J) (.slice zA Z.length zc) (.slice tA T.length tc) Z T x aD);have bP:=ZeX r (4+x);have Y:Hid (w3.ownsRow (w.heap.size+3) 3 1 (.slice (some g) (Z.length+1) G) (Z.length+1) ((ZN (Z++[x])).map (Value.int .i64))):=ZzG (by
     have e:(ZN (Z++[x])).map (Value.int .i64)=(ZN Z).map (Value.int .i64)++[.int .i64 (x:Int)]:=by simp[ZN]
     rw[e];exact H);have U:=ZzG r;clear CB cz fz r H f aA p m z s hr C0 M0;go_wp2;go_roundw;case rel=>
     refine⟨k+1,Qa,Qj,ZB (ZB M3 Qg _) Qg _,?_,⟨.slice (some g) (Z.length+1) G,.slice tA T.length tc,?_,?_,?_,aS.out⟩,(X.setCell Qg _).setCell Qg _,Qk⟩;·obtain⟨c,h1,h2⟩:=aY.out;exact⟨c,ZB (ZB h1 Qg _) Qg _,h2⟩
     ·rw[aI.out,aC.out,if_pos D,if_pos D];exact ZL (ZL U.out _ (Zs9 ..)) _ (Zs7 _ _ _ _ _ _ x aD)
     ·rw[aI.out,if_pos D,ZAA];exact ownsRow_setCell_below (ownsRow_setCell_below Y.out Qg _) Qg _
     ·rw[aC.out,if_pos D];exact ownsRow_setCell_below (ownsRow_setCell_below aQ.out Qg _) Qg _
    case measure=>exact Qv
   ·obtain⟨y,hy⟩:=Qu (x-d);have bT:(d:Int)<=(x:Int):=Qa
    have bZ:IntKind.i64.wrap ((x:Int)-(d:Int))=(y:Int):=by rw[ZzE _ Qa];omega
    have cC:(y:Int)<8:=Qa
    have aE:y<8:=Qa
    rw[hy]at aC;have cz:=ZaQ z.out (ZmD (.slice O d Q) (.slice I E J) (.slice zA Z.length zc) (.slice tA T.length tc) Z T y aE);have fz:=ZeX z.out (9+y);clear hy;go_wp2_with (at_builtin;refine wpList_append_lies _ rfl _ _ 31 rfl (w.heap.size+3) 3 i0 (.int .i64 0) 1 8 underlying31 hi bK bL bM rfl Qc _ _ _ rfl (m.out.alloc _) ⟨wr.heap.size,0,none⟩ 1 1 [.int .i64 (y:Int)] rfl rfl ?c1 ?c2 Qc ?c3 ?c4 ?c5 (wr.heap.size+1) ?c6 ?_);case c1=>exact Zbd _ [.int .i64 (y:Int)] _ Qd
    case c2=>intro u hu;simp at hu;subst hu;rfl
    case c3=>unfold maxLen;omega
    case c4=>omega
    case c5=>simp;omega
    case c6=>simp
    intro g G w3 H f aA bF;have bQ:=(H.lt g rfl).1;have r:=Zaz f (Zz z.out _) (Zay m.out Qa);have M3:=Zaz f (Zz M0 _) (Zay m.out Qa);have aR:=ZzG (ZeR (ZK p.out (ZC _ _)) f fun g' R S=>s.out g' R S.symm);have aY:Hid (∃c,w3.heap[w.heap.size+1]?=some (.cells c 116)/\c.size=17):=by obtain⟨c,h1,h2⟩:=hr.out;exact⟨c,Zaz f (Zz h1 _) (Zay m.out Qa),h2⟩
    have aS:=ZzG (show ∀g',(Value.slice zA Z.length zc).ownBlock=some g'->(Value.slice (some g) (T.length+1) G).ownBlock≠some g' from fun g' R S=>by
     cases S;rcases aA with h|h;·exact s.out g R h
     ·have:=(p.out.lt g R).2;omega);have X:QB w w3:=ZT (via aF (ZC _ _)) f fun b e=>by have:=(m.out.lt b e).1;omega
    have bI:wr.heap.size+1<=w3.heap.size:=by have:=f.size;simpa using this
    have bN:=Zje r;have bO:=ZaQ r (ZmD (.slice O d Q) (.slice I E J) (.slice zA Z.length zc) (.slice tA T.length tc) Z T y aE);have bP:=ZeX r (9+y);have Y:Hid (w3.ownsRow (w.heap.size+3) 3 1 (.slice (some g) (T.length+1) G) (T.length+1) ((ZN (T++[y])).map (Value.int .i64))):=ZzG (by
     have e:(ZN (T++[y])).map (Value.int .i64)=(ZN T).map (Value.int .i64)++[.int .i64 (y:Int)]:=by simp[ZN]
     rw[e];exact H);have U:=ZzG r;clear CB cz fz r H f aA p m z s hr C0 M0;go_wp2;go_roundw;case rel=>
     refine⟨k+1,Qa,Qj,ZB (ZB M3 Qg _) Qg _,?_,⟨.slice zA Z.length zc,.slice (some g) (T.length+1) G,?_,?_,?_,aS.out⟩,(X.setCell Qg _).setCell Qg _,Qk⟩;·obtain⟨c,h1,h2⟩:=aY.out;exact⟨c,ZB (ZB h1 Qg _) Qg _,h2⟩
     ·rw[aI.out,aC.out,if_neg D,if_neg D];exact ZL (ZL U.out _ (Zta ..)) _ (Zs8 _ _ _ _ _ _ y aE)
     ·rw[aI.out,if_neg D];exact ownsRow_setCell_below (ownsRow_setCell_below aR.out Qg _) Qg _
     ·rw[aC.out,if_neg D,ZAA];exact ownsRow_setCell_below (ownsRow_setCell_below Y.out Qg _) Qg _
    case measure=>exact Qv
  ·obtain rfl:k=N:=Qa
   have K:l.take k=l:=by rw[<-bC.out,ZBo]
   clear CB;rw[K,aK.out,aJ.out]at Bk;rw[K,aK.out]at Bz;rw[K,aJ.out]at Bt;have p:=ZzG Bz;have m:=ZzG Bt;clear aX K aP Bz Bt;obtain⟨cr,aB,bG⟩:=hr.out;go_wp2_with (first
    |(refine ZeU Qh (.tmp 5) 116 Qh (w.heap.size+2) (Z3 (.slice O d Q) (.slice I E J) (.slice zA ZF.length zc) (.slice tA TF.length tc) ZF TF) 116 ?lp (aL _) (L _) ?lb ?_)|(refine ZaC Qh (.tmp 4) (.tmp 46) 116 Qh (w.heap.size+1) (Z3 (.slice O d Q) (.slice I E J) (.slice zA ZF.length zc) (.slice tA TF.length tc) ZF TF) cr.toList 116 ?sp ?sq (L _) ?sb ?sl (Zjn rfl rfl rfl rfl) ?_));case lp=>rfl
   case lb=>exact Bk
   case sb=>rw[Array.toArray_toList];exact aB
   case sl=>rw[Array.length_toList,bG];rfl
   intro w2 aW aH bU;have bE:QB w w2:=ZT aF aH fun b e=>by have:=ZB9 e;omega
   have bB:=ZeR p.out aH fun g' R S=>by have:=(p.out.lt g' R).1;have:=ZB9 S;omega
   have bA:=ZeR m.out aH fun g' R S=>by have:=(m.out.lt g' R).1;have:=ZB9 S;omega
   have aR:=ZzG bB;have aQ:=ZzG bA;clear Bk bB bA p m aH aB bG C0 M0 hr;go_wp2;refine bodyPost_ret (v:=.agg (Z3 (.slice O d Q) (.slice I E J) (.slice zA ZF.length zc) (.slice tA TF.length tc) ZF TF).toArray) ?_ rfl ⟨⟨_,_,rfl,ZaN (base:=w.heap.size) aR.out (ZBD _ 3),ZaN (base:=w.heap.size) aQ.out (ZBD _ 3)⟩,bE⟩;have bH:(loadVar 116 ⟨w.heap.size+1,0,none⟩).run prog w2=.ok (.agg (Z3 (.slice O d Q) (.slice I E J) (.slice zA ZF.length zc) (.slice tA TF.length tc) ZF TF).toArray) w2:=Zag (aL _) (L _) aW;exact Zeg rfl rfl bH
end Go.Proofs
