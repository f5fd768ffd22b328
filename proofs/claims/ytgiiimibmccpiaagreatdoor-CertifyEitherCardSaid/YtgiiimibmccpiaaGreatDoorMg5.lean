import Derived.Test.YtgiiimibmccpiaaGreatDoorMg4
import Derived.RangeFuncNested
import Derived.RangeFuncBound
import Derived.Shelf.RegionOpen
import Derived.OwnWalkIn
import Derived.LoopNIn
import Derived.LoopIn
import Derived.Deep.LoopGhost
set_option linter.unusedVariables false
set_option linter.unusedSimpArgs false
set_option maxRecDepth 100000
set_option maxHeartbeats 16000000
namespace Go
theorem Zv8:type_of% @Array.all_eq_true':=@Array.all_eq_true'
theorem ZwD:type_of% @Array.replicate_succ:=@Array.replicate_succ
theorem ZwF:type_of% @Array.size_push:=@Array.size_push
theorem ZwG:type_of% @Array.size_setIfInBounds:=@Array.size_setIfInBounds
theorem ZwK:type_of% @RowKit.Below.setCell:=@RowKit.Below.setCell
theorem ZwV:type_of% @Bool.or_false:=@Bool.or_false
theorem ZwW:type_of% @Bool.or_self:=@Bool.or_self
theorem ZwX:type_of% @Bool.or_true:=@Bool.or_true
theorem Zw6:type_of% @Int.le_of_mul_le_mul_left:=@Int.le_of_mul_le_mul_left
theorem Zxe:type_of% @Int.not_lt:=@Int.not_lt
theorem Zxk:type_of% @List.all_cons:=@List.all_cons
theorem Zxq:type_of% @List.append_nil:=@List.append_nil
theorem Zxu:type_of% @List.contains_cons:=@List.contains_cons
theorem Zxx:type_of% @List.contains_nil:=@List.contains_nil
theorem Zxz:type_of% @List.countP_eq_length:=@List.countP_eq_length
theorem ZxD:type_of% @List.eq_nil_iff_forall_not_mem:=@List.eq_nil_iff_forall_not_mem
theorem ZxF:type_of% @List.eq_of_mem_replicate:=@List.eq_of_mem_replicate
theorem ZxG:type_of% @List.exists_mem_of_ne_nil:=@List.exists_mem_of_ne_nil
theorem ZxI:type_of% @List.ext_getElem?:=@List.ext_getElem?
theorem ZxY:type_of% @List.getElem?_eq_none:=@List.getElem?_eq_none
theorem Zx3:type_of% @List.getElem?_range:=@List.getElem?_range
theorem Zx6:type_of% @List.getElem?_set_ne:=@List.getElem?_set_ne
theorem Zx8:type_of% @List.getElem?_take_of_lt:=@List.getElem?_take_of_lt
theorem Zyc:type_of% @List.length_append:=@List.length_append
theorem Zye:type_of% @List.length_filter_le:=@List.length_filter_le
theorem Zyg:type_of% @List.length_nil:=@List.length_nil
theorem Zyi:type_of% @List.length_replicate:=@List.length_replicate
theorem Zyw:type_of% @List.mem_append_right:=@List.mem_append_right
theorem Zyz:type_of% @List.mem_cons_self:=@List.mem_cons_self
theorem ZyH:type_of% @List.mem_singleton:=@List.mem_singleton
theorem ZyL:type_of% @List.nodup_cons:=@List.nodup_cons
theorem ZzA:type_of% @Option.getD_some:=@Option.getD_some
end Go
namespace Go.Proofs
open Go.RowKit
variable {M:Nat->Prop} {A B W W':World}
structure Lie (M:Nat->Prop)(W W':World):Prop where
 size:W.heap.size<=W'.heap.size
 same:∀k,k<W.heap.size->¬M k->W'.heap[k]?=W.heap[k]?
theorem Lie.refl(M:Nat->Prop)(W:World):Lie M W W:=⟨Zza _,fun _ _ _=>rfl⟩
theorem Lie.trans{C:World} (h:Lie M A B)(k:Lie M B C):Lie M A C:=⟨Zzb h.size k.size,fun i d f=>(k.same i (Zzf d h.size) f).trans (h.same i d f)⟩
theorem Lie.mono{d:Nat->Prop} (h:Lie M A B)(hm:∀k,k<A.heap.size->M k->d k):Lie d A B:=⟨h.size,fun k f i=>h.same k f fun e=>i (hm k f e)⟩
theorem Lie.of_below(M:Nat->Prop)(h:Below W.heap.size W W'):Lie M W W':=⟨h.size,fun k d _=>h.block k d⟩
theorem Lie.of_grown{row:Option Nat} (h:W.grownBy W' row)(i:∀r,row=some r->M r):Lie M W W':=⟨h.size,fun k d f=>h.block k d fun e=>f (i k e.symm)⟩
theorem Lie.putObj(W:World)(l:Nat)(o:Obj)(h:M l):Lie M W (W.putObj l o):=.of_grown (grownBy_putObj' W l o) fun r e=>by cases e;exact h
theorem Lie.setCell(W:World) {p:Addr} (u:Value)(h:M p.block):Lie M W (W.setCell p u):=⟨by simp,fun k f d=>ZwI W p u k fun e=>d (e▸h)⟩
theorem Lie.obj(h:Lie M W W') {k:Nat} {o:Obj} (f:¬M k)(d:W.heap[k]?=some o):W'.heap[k]?=some o:=(h.same k (Zwm.1 d).1 f).trans d
def Zfc{α:Type} (d:α->Nat->Prop)(B:Nat)(J:List α->(Nat->Prop)->World->Prop):Prop:=∀s T W W' row,J s T W->W.grownBy W' row->(∀r,row=some r->B<=r/\¬T r/\∀x∈s,¬d x r)->J s T W'
def ZkL{α:Type} (F:Fence)(n:Nat)(P:Program)(g:Nat)(lb:Array Value)(h:α->Array Value)(o:α->Nat->Prop)(M:Nat->Prop)(p:List α->α->World->Prop)(S s:List α->Prop)(N:Nat)(w:World):Prop:=∀(l:Nat)(J m:List α->(Nat->Prop)->World->Prop)(W:World),Below w.heap.size w W->w.heap.size<=l->l<W.heap.size->Zfc o W.heap.size J->Zfc o W.heap.size m->(∀d T x f,J d T f->(∀r,T r->W.heap.size<=r/\r<f.heap.size)->(∀y∈d++[x],∀r,o y r->W.heap.size<=r)->d.length<N->p d x f->YieldAt F (n-1) P l (h x) f fun e W'=>∃i,(∀r,i r->T r∨f.heap.size<=r)/\(∀r,i r->r<W'.heap.size)/\Lie (fun k=>M k∨T k∨k=l) f W'/\((e=.returned (.bool true)/\J (d++[x]) i W')∨(e=.returned (.bool false)/\m (d++[x]) i W')))->J [] (fun _=>False) W->CallsIn F n P g (#[.func (.yield l) #[] #[]]++lb) W fun e W'=>(∃v,e=.returned v)/\((∃xs T,S xs/\J xs T W')∨(∃d T,s d/\m d T W'))
def Zo7{α:Type} (M T:Nat->Prop)(I:List α->(Nat->Prop)->World->Prop)(f:Code->List α->(Nat->Prop)->World->Prop)(xs:List α)(W:World):Exit->Act->World->Prop|.normal,_,W'=>∃d,(∀r,d r->T r∨W.heap.size<=r)/\(∀r,d r->r<W'.heap.size)/\Lie (fun k=>M k∨T k) W W'/\I xs d W'|.ret,_,W'=>∃d,(∀r,d r->T r∨W.heap.size<=r)/\(∀r,d r->r<W'.heap.size)/\Lie (fun k=>M k∨T k) W W'/\f .ret xs d W'|.exit id,_,W'=>∃d,(∀r,d r->T r∨W.heap.size<=r)/\(∀r,d r->r<W'.heap.size)/\Lie (fun k=>M k∨T k) W W'/\f (.exit id) xs d W'|.goto t,_,W'=>∃d,(∀r,d r->T r∨W.heap.size<=r)/\(∀r,d r->r<W'.heap.size)/\Lie (fun k=>M k∨T k) W W'/\f (.goto t) xs d W'|.panic _,_,_=>False|.outgrown,_,_=>False
variable {F:Fence} {n:Nat} {P:Program}
theorem ZkM{α:Type} {g:Operand} {ps:Array Tmp} {assign body:Code} {Q:Exit->Act->World->Prop} {a:Act} {w:World} (bF:F.round=none)(h1:1<=n) {gf:Nat} {lb:Array Value} (hg:a.eval g=.func (.func gf) #[] lb)(aR:F.fn gf)(eg:∀args w,(callFunc gf args).run P w=.ok (.enter gf args) w) {X:α->Array Value} {gv:α->Nat->Prop} {Ok:List α->α->World->Prop} {S Sp:List α->Prop} {N:Nat} (aQ:ZkL F (n-1) P gf lb X gv M Ok S Sp N w)(hM:∀k,M k->k<w.heap.size)(bE:∀x,(X x).size=ps.size)(I:List α->(Nat->Prop)->World->Prop)(Ix:Code->List α->(Nat->Prop)->World->Prop)(Ax:List α->(Nat->Prop)->α->Act->World->Prop)(hI:Zfc gv w.heap.size I)(hIx:∀c,Zfc gv w.heap.size (Ix c))(hAx:∀d T x a (W:World)(l:Nat)(o o':Obj),w.heap.size<=l->¬T l->(∀y∈d++[x],¬gv y l)->W.heap[l]?=some o->o.isCells=false->Ax d T x a W->Ax d T x a (W.putObj l o'))(h0:I [] (fun _=>False) w)(aB:∀(l:Nat)(d:List α)(T:Nat->Prop)(x:α)(W:World),I d T W->(∀r,T r->w.heap.size<=r/\r<W.heap.size)->d.length<N->Ok d x W->(∀y∈d++[x],∀r,gv y r->w.heap.size<=r)->assign.wpIn (F.inRound l) (n-1-1) P (Exit.then (fun a₁ W₁=>Lie (fun k=>M k∨T k) W W₁/\Ax d T x a₁ W₁) (fun _ _ _=>False)) {tmps:=(ps.zip (X x)).foldl (fun t (p,v)=>t.setIfInBounds p v) a.tmps,defers:=[]} W)(aJ:∀(l:Nat) (d:List α) (T:Nat->Prop) (x:α) (a₁:Act) (W:World),Ax d T x a₁ W->(∀r,T r->w.heap.size<=r/\r<W.heap.size)->d.length<N->body.wpIn (F.inRound l) (n-1-1) P (Zo7 M T I Ix (d++[x]) W) a₁ W)(aK:∀(D:Nat)(xs:List α)(T:Nat->Prop)(W:World),S xs->I xs T W->D=w.heap.size->W.heap[D]?=some (.deferred (some []))->Q .normal {a with defers:={target:=.collected D,args:=#[]}::a.defers} W)(aM:∀(D:Nat)(c:Code)(d:List α)(T:Nat->Prop)(W:World),Sp d->Ix c d T W->D=w.heap.size->W.heap[D]?=some (.deferred (some []))->c.wpIn F n P Q {a with defers:={target:=.collected D,args:=#[]}::a.defers} W):(Code.rangeFunc g ps assign body).wpIn F n P Q a w:=by
 refine wpIn_rangeFunc ?_;intro fn aX;rw[bF];obtain⟨i,m⟩:∃i:LoopState->Option Code->Loop,i=fun st pe=>{state:=st,pending:=pe,fn,tmps:=a.tmps,params:=ps,assign,body,defers:=w.heap.size}:=⟨_,rfl⟩;obtain⟨Z,aA⟩:∃Z,(w.alloc (.deferred (some []))).alloc (.loop (i .ready none))=Z:=⟨_,rfl⟩;have bH:Z.heap.size=w.heap.size+2:=by rw[<-aA];simp
 have aU:Z.heap[w.heap.size+1]?=some (.loop (i .ready none)):=by rw[<-aA];have:=World.alloc_heap_new (w.alloc (.deferred (some []))) (.loop (i .ready none));rwa [World.size_alloc]at this
 have aT:Z.heap[w.heap.size]?=some (.deferred (some [])):=by rw[<-aA];exact(RowKit.Below.heap_alloc _ _ _ (by simp)).trans (World.alloc_heap_new w _)
 have aS:I [] (fun _=>False) Z:=by rw[<-aA];refine hI _ _ _ _ none (hI _ _ _ _ none h0 (World.grownBy_alloc w _ none) (fun r e=>by cases e)) (World.grownBy_alloc _ _ none) (fun r e=>by cases e)
 have aW:Below w.heap.size w Z:=by rw[<-aA];exact((ZwJ _ w).alloc (Zza _) _).alloc (by simp) _
 refine⟨w.heap.size+1,[{target:=.collected w.heap.size,args:=#[]}],Z,{target:=.fn (.func gf) lb,args:=#[.func (.yield (w.heap.size+1)) #[] #[]]},Z,gf,#[.func (.yield (w.heap.size+1)) #[] #[]]++lb,Z,?_,?_,?_,?_,fun _=>h1,?_⟩;·rw[<-aA,m];exact run_enterLoop_outer _ _ _ _ _
 ·simp only[resolve,hg];simp[go_sem]
 ·intro f' aO;simp[Target.leads]at aO;subst aO;exact aR
 ·simp[invoke,go_sem,eg]
 ·have Y:∀{A B:World} {row:Option Nat} {k:Nat} {o:Obj},A.grownBy B row->(∀r,row=some r->Z.heap.size<=r)->k<w.heap.size+2->A.heap[k]?=some o->B.heap[k]?=some o:=fun H J hk ho=>by rw[H.block _ (Zwm.1 ho).1 (fun e=>by have:=J _ e.symm;omega),ho]
  have G:∀{K:List α->(Nat->Prop)->World->Prop},Zfc gv w.heap.size K->∀{s T W} (o:Obj),K s T W->(∀r,T r->w.heap.size+2<=r)->(∀y∈s,∀r,gv y r->w.heap.size+2<=r)->K s T (W.putObj (w.heap.size+1) o):=fun hK s T W o hs L hv=>hK _ _ _ _ _ hs (grownBy_putObj' W _ o) fun r e=>by cases e;exact⟨by omega,fun h=>by have:=L _ h;omega,fun y hy h=>by have:=hv y hy _ h;omega⟩
  refine(aQ (w.heap.size+1)
   (fun d T W=>I d T W/\W.heap[w.heap.size+1]?=some (.loop (i .ready none))/\W.heap[w.heap.size]?=some (.deferred (some []))/\(∀r,T r->w.heap.size+2<=r)/\(∀y∈d,∀r,gv y r->w.heap.size+2<=r))
   (fun d T W=>∃c,Ix c d T W/\W.heap[w.heap.size+1]?=some (.loop (i .done (some c)))/\W.heap[w.heap.size]?=some (.deferred (some []))/\(∀r,T r->w.heap.size+2<=r)/\(∀y∈d,∀r,gv y r->w.heap.size+2<=r)) Z aW (by omega) (by omega)
   (fun s T A B row hs H J=>⟨hI s T A B row hs.1 H (fun r e=>by have:=J r e;exact⟨by omega,this.2⟩),Y H (fun r e=>(J r e).1) (by omega) hs.2.1,Y H (fun r e=>(J r e).1) (by omega) hs.2.2.1,hs.2.2.2⟩)
   (fun s T A B row hs H J=>by obtain⟨c,hc,hl,hk,bG⟩:=hs;exact⟨c,hIx c s T A B row hc H (fun r e=>by have:=J r e;exact⟨by omega,this.2⟩),Y H (fun r e=>(J r e).1) (by omega) hl,Y H (fun r e=>(J r e).1) (by omega) hk,bG⟩) ?_ ⟨aS,aU,aT,fun r h=>h.elim,fun y hy=>by cases hy⟩).mono ?_
  ·rintro d T x W ⟨hi,hl,hk,aE,bI⟩ hT aY aH aP;have hy:=run_yield (P:=P) (args:=X x) hl (by rw[m];exact bE x);rw[m]at hy;have aI:∀r,T r->w.heap.size<=r/\r<W.heap.size:=fun r h=>⟨by have:=aE r h;omega,(hT r h).2⟩;have u:∀y∈d++[x],∀r,gv y r->w.heap.size+2<=r:=fun y hy r h=>by have:=aY y hy r h;omega
   have aL:¬(M (w.heap.size+1)∨T (w.heap.size+1)):=by
    rintro(h|h);·have:=hM _ h;omega
    ·have:=aE _ h;omega
   have aN:¬(M w.heap.size∨T w.heap.size):=by
    rintro(h|h);·have:=hM _ h;omega
    ·have:=aE _ h;omega
   refine⟨fn,_,assign,body,hy,roundIn_of_wpIn aX (wpIn_mono (aB _ d T x W hi aI aH aP (fun y hy r h=>by have:=u y hy r h;omega)) ?_)⟩;rintro e a2 W2 hp;cases e with
   |normal=>
    obtain⟨ko,hx⟩:=hp;have aF:=ko.obj aL hl;have aZ:=ko.obj aN hk;have bD:w.heap.size+1<W2.heap.size:=(Zwm.1 aF).1;have bB:(W2.putObj (w.heap.size+1) (.loop {i .ready none with state:=.busy})).heap[w.heap.size+1]?=some (.loop {i .ready none with state:=.busy}):=World.putObj_heap_same bD;have bA:(W2.putObj (w.heap.size+1) (.loop {i .ready none with state:=.busy})).heap[w.heap.size]?=some (.deferred (some [])):=(World.putObj_heap_other (by omega)).trans aZ;refine⟨_,run_beginRound aF (by rw[m]),?_⟩;refine wpIn_mono (aJ _ d T x a2 _ (hAx d T x a2 _ _ _ _ (by omega) (fun h=>aL (.inr h)) (fun y hy h=>by have:=u y hy _ h;omega) aF rfl hx) (fun r h=>⟨(aI r h).1,by rw[World.putObj_size];exact Zzf (aI r h).2 ko.size⟩) aH) ?_;have st:Lie (fun k=>M k∨T k∨k=w.heap.size+1) W (W2.putObj (w.heap.size+1) (.loop {i .ready none with state:=.busy})):=(ko.mono (fun k _ h=>by rcases h with h|h;exact .inl h;exact .inr (.inl h))).trans (Lie.putObj _ _ _ (.inr (.inr rfl)));have aC:∀(f:Option Code) (W3:World),Lie (fun k=>M k∨T k) (W2.putObj (w.heap.size+1) (.loop {i .ready none with state:=.busy})) W3->(Instr.endRound (w.heap.size+1) f).run P W3=.ok (.bool f.isNone) (W3.putObj (w.heap.size+1) (.loop (i (if f.isNone then .ready else .done) f)))/\(W3.putObj (w.heap.size+1) (.loop (i (if f.isNone then .ready else .done) f))).heap[w.heap.size+1]?=some (.loop (i (if f.isNone then .ready else .done) f))/\(W3.putObj (w.heap.size+1) (.loop (i (if f.isNone then .ready else .done) f))).heap[w.heap.size]?=some (.deferred (some []))/\Lie (fun k=>M k∨T k∨k=w.heap.size+1) W (W3.putObj (w.heap.size+1) (.loop (i (if f.isNone then .ready else .done) f))):=fun f W3 z=>by have E:=z.obj aL bB;have:=run_endRound (P:=P) f E;rw[m]at this |-;refine⟨this,World.putObj_heap_same (Zwm.1 E).1,(World.putObj_heap_other (by omega)).trans (z.obj aN bA),?_⟩;rw[m]at st;rw[m]at z;exact(st.trans (z.mono (fun k _ h=>by rcases h with h|h;exact .inl h;exact .inr (.inl h)))).trans (Lie.putObj _ _ _ (.inr (.inr rfl)))
    have aG:W.heap.size<=(W2.putObj (w.heap.size+1) (.loop {i .ready none with state:=.busy})).heap.size:=by rw[World.putObj_size];exact ko.size
    have aD:∀O:Nat->Prop,(∀r,O r->T r∨(W2.putObj (w.heap.size+1) (.loop {i .ready none with state:=.busy})).heap.size<=r)->∀r,O r->w.heap.size+2<=r:=fun O h r J=>by
     rcases h r J with h|h;·exact aE r h
     ·have:=ko.size;rw[World.putObj_size]at h;have:Z.heap.size<=W.heap.size∨True:=.inr trivial;have:=(Zwm.1 aF).1;omega
    rintro e a3 W3 hp;cases e with
    |normal=>obtain⟨O,t1,t2,z,R⟩:=hp;obtain⟨J,E,U,V⟩:=aC none W3 z;have L:=aD O t1;exact⟨_,_,J,O,fun r h=>(t1 r h).imp id (Zzb aG),fun r h=>by rw[World.putObj_size];exact t2 r h,V,.inl ⟨rfl,G hI _ R L u,E,U,L,u⟩⟩|ret=>obtain⟨O,t1,t2,z,R⟩:=hp;obtain⟨J,E,U,V⟩:=aC (some .ret) W3 z;have L:=aD O t1;exact⟨_,_,J,O,fun r h=>(t1 r h).imp id (Zzb aG),fun r h=>by rw[World.putObj_size];exact t2 r h,V,.inr ⟨rfl,.ret,G (hIx _) _ R L u,E,U,L,u⟩⟩|exit id=>obtain⟨O,t1,t2,z,R⟩:=hp;obtain⟨J,E,U,V⟩:=aC (some (.exit id)) W3 z;have L:=aD O t1;exact⟨_,_,J,O,fun r h=>(t1 r h).imp (fun h=>h) (Zzb aG),fun r h=>by rw[World.putObj_size];exact t2 r h,V,.inr ⟨rfl,.exit id,G (hIx _) _ R L u,E,U,L,u⟩⟩|goto t=>obtain⟨O,t1,t2,z,R⟩:=hp;obtain⟨J,E,U,V⟩:=aC (some (.goto t)) W3 z;have L:=aD O t1;exact⟨_,_,J,O,fun r h=>(t1 r h).imp id (Zzb aG),fun r h=>by rw[World.putObj_size];exact t2 r h,V,.inr ⟨rfl,.goto t,G (hIx _) _ R L u,E,U,L,u⟩⟩|panic ch=>exact hp.elim|outgrown=>exact hp.elim
   |_=>exact hp.elim
  ·rintro e W2 ⟨⟨v,rfl⟩,(⟨xs,T,hS,hi,hl,hk,L,hv⟩|⟨d,T,aV,c,hi,hl,hk,L,hv⟩)⟩;·exact⟨none,_,by have:=run_endLoop (P:=P) hl (by rw[m];simp);rw[m]at this;exact this,aK _ xs T _ hS (G hI _ hi L hv) rfl ((World.putObj_heap_other (by omega)).trans hk)⟩
   ·exact⟨some c,_,by have:=run_endLoop (P:=P) hl (by rw[m];simp);rw[m]at this;exact this,aM _ c d T _ aV (G (hIx c) _ hi L hv) rfl ((World.putObj_heap_other (by omega)).trans hk)⟩
section
variable {ops:Array Oper} {md:Region.Mode} {C:World->Prop}
end
variable {l:List Nat} {k x j a q:Nat} {W W':World}
attribute [local go_sem] Oper.semAt_some structure ChV where
 b:Nat
 l:List Nat
def Zf7(x:ChV):Array Value:=#[.slice (some ⟨x.b,0,none⟩) x.l.length x.l.length]
def ZZ(l:List Nat):List Int:=l.map fun(a:Nat)=>(a:Int)
def gvN{α:Type} (_:α)(_:Nat):Prop:=False
theorem Zep(l:List Nat):(ZZ l).length=l.length:=by simp[ZZ]
theorem Zcw{x:Nat} (h:l[k]?=some x):(ZZ l)[k]?=some (x:Int):=by simp[ZZ,h]
theorem ZkN(l:List Nat)(k x:Nat):(ZZ l).set k (x:Int)=ZZ (l.set k x):=by simp[ZZ,List.map_set]
theorem ZJ.grown{T:TypeId} {B:Nat} {l:List Int} (h:ZJ T W B l) {M:Nat->Prop} (d:Lie M W W')(hB:¬M B):ZJ T W' B l:=d.obj hB h
theorem ZkO(hb:Below W.heap.size W W'):W.grownBy W' none:=⟨hb.os,hb.tape,hb.output,hb.size,fun k d _=>hb.block k d⟩
theorem ZkP(W:World) (B o:Nat) (v:Value):W.grownBy (W.setCell ⟨B,o,none⟩ v) (some B):=⟨rfl,rfl,rfl,by simp,fun k f d=>ZwI W _ v k fun e=>d (by rw[e])⟩
structure ChI (n k:Nat)(M:Nat->Prop)(w:World)(J:List ChV->(Nat->Prop)->World->Prop)(W0 B B1 B2:Nat)(i:Nat)(l:List Nat)(wr:World)(pre:List ChV)(T:Nat->Prop):Prop where
 plen:pre.length=i
 pre_:pre.map ChV.l=(cmb 0 n k).take i
 now:(cmb 0 n k)[i]?=some l
 mem:ZJ 3 wr B (ZZ l)
 jj:J pre T wr
 tt:∀r,T r->W0<=r/\r<wr.heap.size/\r≠B
 c1:wr.heap[B1]?=some (.cells #[.int .i64 k] 3 (0,0))
 c2:wr.heap[B2]?=some (.cells #[.int .i64 n] 3 (0,0))
 sz:W0<=B/\B<wr.heap.size
def ZcP(k j:Nat):List Int:=ZZ (List.range' 0 j)++List.replicate (k-j) 0
theorem Zo8{j:Nat} (h:j<k):(ZcP k j).set j (j:Int)=ZcP k (j+1):=by unfold ZcP;rw[ZyS _ _ (by simp[ZZ]),List.range'_1_concat,show k-j=(k-(j+1))+1 by omega,ZyQ];simp[ZZ]
theorem Zo9(h:j<=k):(ZcP k j).length=k:=by simp[ZcP,ZZ];omega
theorem Zpa(k:Nat):ZcP k k=ZZ (List.range' 0 k):=by simp[ZcP]
def Zbz(l:List Nat) (a x q:Nat):List Nat:=l.take a++List.range' (x+1) (q-a)++l.drop q
theorem Zpb(h:a<l.length):l.set a (x+1)=Zbz l a x (a+1):=by unfold Zbz;rw[show a+1-a=1 by omega];simp[List.set_eq_take_append_cons_drop,h]
theorem Zpc(h:a<q)(hq:q<l.length):(Zbz l a x q).set q (x+(q-a)+1)=Zbz l a x (q+1):=by unfold Zbz;rw[Zxp,ZyS _ _ (by simp;omega),Zyj,ZyS _ _ (by simp;omega),List.length_range',show q-min a l.length-(q-a)=0 by omega,ZxA hq,List.set_cons_zero,show q+1-a=(q-a)+1 by omega,List.range'_1_concat];simp;omega
theorem Zpd(h:a<q)(hq:q<=l.length):(Zbz l a x q).length=l.length:=by simp[Zbz];omega
theorem Zpe(h:a<q)(hq:q<=l.length):(Zbz l a x q)[q-1]?=some (x+(q-a)):=by unfold Zbz;rw[Zxp,ZxU (by simp;omega),Zyj,ZxT (by simp;omega)];rw[List.getElem?_range' (by omega)];congr 1;omega
theorem Zpf:Zbz l a x l.length=l.take a++List.range' (x+1) (l.length-a):=by simp[Zbz]
variable {w:World} {b T:Nat} {cs:List Value}
def boolL(n:Nat)(z:List Nat):List Value:=(List.range n).map fun i=>.bool (decide (i∈z))
def ZW(pv d h f:Value)(z t:List Nat):List Value:=pv::d::h::f::(boolL 5 z++boolL 8 t)
theorem Zf8(n k:Nat)(z:List Nat)(h:k<n):(boolL n z)[k]?=some (.bool (decide (k∈z))):=by simp[boolL,Zx3 h]
theorem Zf9(pv d i f:Value)(z t:List Nat)(k:Nat)(h:k<5):(ZW pv d i f z t)[4+k]?=some (.bool (decide (k∈z))):=by rw[Zy2];show (boolL 5 z++boolL 8 t)[k]?=_;rw[ZxT (by simp[boolL];exact h),Zf8 5 k z h]
theorem ZkQ(pv d i f:Value)(z t:List Nat)(k:Nat)(h:k<8):(ZW pv d i f z t)[9+k]?=some (.bool (decide (k∈t))):=by rw[Zy2,show k+9=(k+5)+4 by omega];show (boolL 5 z++boolL 8 t)[k+5]?=_;rw[ZxU (by simp[boolL]),show k+5-(boolL 5 z).length=k by simp[boolL],Zf8 8 k t h]
theorem ZkR(n x:Nat)(z:List Nat)(h:x<n):(boolL n z).set x (.bool true)=boolL n (z++[x]):=by
 apply ZxI;intro j;rw[Zx5];by_cases d:j<n
 ·rw[Zf8 n j _ d,Zf8 n j _ d];by_cases e:x=j;·subst e;simp[boolL,h]
  ·rw[if_neg e];have:¬j=x:=fun h=>e h.symm;simp[this]
 ·have f:(boolL n z)[j]?=none:=ZxY (by simp[boolL];omega);have i:(boolL n (z++[x]))[j]?=none:=ZxY (by simp[boolL];omega);rw[f,i,if_neg (by omega)]
theorem Zpg(pv d i f:Value) (z t:List Nat) (x:Nat) (h:x<5):(ZW pv d i f z t).toArray.setIfInBounds (4+x) (.bool true)=(ZW pv d i f (z++[x]) t).toArray:=by rw[List.setIfInBounds_toArray,Zy2 4 x];congr 1;show pv::d::i::f::(boolL 5 z++boolL 8 t).set x (.bool true)=_;rw[List.set_append_left _ _ (by simp[boolL];exact h),ZkR 5 x z h];rfl
theorem Zph(pv d i f:Value) (z t:List Nat) (x:Nat) (h:x<8):(ZW pv d i f z t).toArray.setIfInBounds (9+x) (.bool true)=(ZW pv d i f z (t++[x])).toArray:=by rw[List.setIfInBounds_toArray,Zy2 9 x,show x+9=(x+5)+4 by omega];congr 1;show pv::d::i::f::(boolL 5 z++boolL 8 t).set (x+5) (.bool true)=_;rw[ZyS _ _ (by simp[boolL]),show x+5-(boolL 5 z).length=x by simp[boolL],ZkR 8 x t h];rfl
theorem Zpi(pv d h f v:Value)(z t:List Nat):(ZW pv d h f z t).toArray.setIfInBounds 2 v=(ZW pv d v f z t).toArray:=by simp[ZW]
theorem Zpj(pv d f h v:Value)(z t:List Nat):(ZW pv d f h z t).toArray.setIfInBounds 3 v=(ZW pv d f v z t).toArray:=by simp[ZW]
theorem Zaq(h:w.heap[b]?=some (.cells cs.toArray T (0,0))) {k:Nat} {v:Value} (hv:cs[k]?=some v):w.cell? ⟨b,k,none⟩=some v:=by unfold World.cell?;simp only[h];simpa using hv
theorem Zeq(h:w.heap[b]?=some (.cells cs.toArray T (0,0)))(k:Nat):w.frozen? ⟨b,k,none⟩=false:=by unfold World.frozen?;simp only[h];simp
theorem Zh9{pv d i f:Value} {z t:List Nat} (h:w.heap[b]?=some (.cells (ZW pv d i f z t).toArray 140 (0,0))):w.cell? ⟨b,0,none⟩=some pv/\w.cell? ⟨b,1,none⟩=some d/\w.cell? ⟨b,2,none⟩=some i/\w.cell? ⟨b,3,none⟩=some f/\w.frozen? ⟨b,2,none⟩=false/\w.frozen? ⟨b,3,none⟩=false/\b<w.heap.size:=⟨Zaq h rfl,Zaq h rfl,Zaq h rfl,Zaq h rfl,Zeq h 2,Zeq h 3,ZI h⟩
theorem Zpk(np:Nat)(l:List Nat)(x:Nat):zerosL np (l++[x])=if x<np then zerosL np l++[x]else zerosL np l:=by unfold zerosL;rw[List.filter_append];by_cases h:x<np<;>simp[h]
theorem Zpl(np:Nat)(l:List Nat)(x:Nat):tightL np (l++[x])=if x<np then tightL np l else tightL np l++[x-np]:=by
 unfold tightL;rw[List.filter_append];by_cases h:x<np
 ·have:¬np<=x:=by omega
  simp[h,this]
 ·have:np<=x:=by omega
  simp[h,this]
structure BasI (base bb:Nat)(pv ev:Value)(z t:List Nat)(zv tv:Value)(wr:World):Prop where
 blk:wr.heap[bb]?=some (.cells (ZW pv ev zv tv z t).toArray 140 (0,0))
 oz:wr.ownsRow base 3 1 zv z.length ((ZZ z).map (Value.int .i64))
 ot:wr.ownsRow base 3 1 tv t.length ((ZZ t).map (Value.int .i64))
 ap:∀g,zv.ownBlock=some g->tv.ownBlock≠some g
variable {w:World} {base c:Nat} {v:Value} {xs:List IR}
structure RowsOwn (wr:World)(base:Nat)(v:Value)(xs:List IR):Prop where
 own:wr.ownsRow base 31 1 v xs.length (xs.map fun x=>.slice x.A x.l.length x.c)
 row:∀x∈xs,At 1 Zc wr x.A x.l/\∀g,x.A=some g->base<=g.block/\g.block<wr.heap.size/\some g.block≠v.ownBlock
theorem RowsOwn.nil(wr:World)(base:Nat):RowsOwn wr base (.slice none 0 0) []:=⟨World.ownsRow_nil _ _ _ _,fun x h=>by cases h⟩
theorem RowsOwn.below{w':World} (h:RowsOwn w base v xs)(hb:Below w.heap.size w w'):RowsOwn w' base v xs:=⟨ZP h.own hb,fun x d=>⟨(h.row x d).1.below hb,fun g f=>by have:=(h.row x d).2 g f;exact⟨this.1,Zzf this.2.1 hb.size,this.2.2⟩⟩⟩
theorem RowsOwn.rowsAt{A:Option Addr} {n:Nat} (h:RowsOwn w base (.slice A n c) xs):Zcu w A xs:=by refine⟨fun k x f=>?_,fun x f=>(h.row x f).1⟩;have i:=h.own;obtain⟨r,s,e⟩:=Z6 i;cases e;obtain⟨g,p,-,m,o⟩:=ZdI i (k:=k) (u:=.slice x.A x.l.length x.c) (by rw[Zx1,f];rfl);refine⟨g,0,p,m,fun j v d=>?_⟩;cases j with|zero=>simp[IR.cs]at d;subst d;simpa using o|succ j=>simp[IR.cs]at d
theorem RowsOwn.push{p I:World} (h:RowsOwn w base v xs)(E:Below w.heap.size w p) {x:IR} {G:Addr} (r:x.A=some G)(m:At 1 Zc p x.A x.l)(J:base<=G.block)(s:G.block<p.heap.size)(z:some G.block≠v.ownBlock)(d:p.grownBy I v.ownBlock) {g cap:Nat} (R:I.ownsRow base 31 1 (.slice (some ⟨g,0,none⟩) (xs.length+1) cap) (xs.length+1) ((xs.map fun x=>Value.slice x.A x.l.length x.c)++[.slice x.A x.l.length x.c])) (L:v.ownBlock=some g∨g=p.heap.size):RowsOwn I base (.slice (some ⟨g,0,none⟩) (xs.length+1) cap) (xs++[x]):=by
 have D:∀k,k<p.heap.size->some k≠v.ownBlock->some k≠some g:=fun k V K e=>by
  rcases L with h|h;·exact K (e.trans h.symm)
  ·cases e;omega
 have f:∀(A:Option Addr)(l:List Int),At 1 Zc p A l->(∀g,A=some g->some g.block≠v.ownBlock)->At 1 Zc I A l:=fun A l m Q k y i=>by obtain⟨b,o,r,t,O⟩:=m k y i;refine⟨b,o,r,Zzf t d.size,fun j u S=>?_⟩;rw[<-O j u S];exact World.cell?_of_block (a:=⟨b,o+k*1+j,none⟩) (d.block b t (Q _ r))
 refine⟨?_,fun y i=>?_⟩;·rw[Zyc,Zyn];exact R
 ·rcases Zyu.1 i with i|i;·obtain⟨U,N⟩:=h.row y i;refine⟨f _ _ (U.below E) fun g d=>(N g d).2.2,fun a H=>?_⟩;obtain⟨q1,q2,q3⟩:=N a H;have q4:=Zzf q2 E.size;exact⟨q1,Zzf q4 d.size,D _ q4 q3⟩
  ·rw[ZyH]at i;subst i;refine⟨f _ _ m fun g d=>?_,fun a H=>?_⟩;·rw[r]at d;cases d;exact z
   ·rw[r]at H;cases H;exact⟨J,Zzf s d.size,D _ s z⟩
theorem Zia(es:List Ex)(z t:List Nat):∀(ws:List Int)(k:Nat)(w:Int),proofRows es z t k (ws++[w])=proofRows es z t k ws++if k+ws.length∈z then []else [proofRow es t (k+ws.length) w]
 |[],k,w=>by simp only[ZyJ,proofRows,Zyg,Zy6]|v::ws,k,w=>by
  have:=Zia es z t ws (k+1) w;rw[show k+1+ws.length=k+(v::ws).length by simp only[Zyd];omega]at this;simp only[Zxt,proofRows];split;·exact this
  ·rw[this];rfl
def ZcQ(es:List Ex)(t:List Nat)(c j:Nat):List Int:=1::(t.take j).map fun i=>-((es.getD i default).1.getD c 0)
theorem ZkS{es:List Ex} {t:List Nat} {j i:Nat} (h:t[j]?=some i):ZcQ es t c (j+1)=ZcQ es t c j++[-((es.getD i default).1.getD c 0)]:=by unfold ZcQ;rw[ZyV,h];simp
theorem ZkT(es:List Ex)(t:List Nat)(c:Nat)(w:Int):ZcQ es t c t.length++[w]=proofRow es t c w:=by simp[ZcQ,proofRow]
theorem Tryz.info31:(Tryz.prog.info? 31).map (fun i=>(i.zero,i.size,i.bytes))=some (some (.slice none 0 0),1,24):=by kernel_rfl
section
variable {P:Program}
theorem Zpm {id : Nat} {Q : Exit -> Act -> World -> Prop} {a0 : Act} {w : World} {l : List Oper} (n : Nat) (J : Oper) (hm : P.follows .mixedOrders = true) (hn : l.length = n + 1) (hz : l[n]? = some J)
    (hB : Zay (l.take n).toArray = true) (hG : l.all (fun o => o.guard.isNone) = true) (hA : (List.range n).all (fun i => J.after.any fun e => Region.binds .any e && e.on == i) = true) (hE : J.after.all (fun e => !Region.binds .any e || decide (e.on < n)) = true)
    (h : wpAny P .any (l.take n).toArray (fun e a x => match e with | .normal => J.wp P a x (fun a' z => Q .normal a' z) Q | e => Q e a x) (l.take n).toArray.size (Array.replicate (l.take n).toArray.size false) a0 { w with drawn := w.drawn + 1 }) :
    (Code.region id l.toArray true).wp P Q a0 w := by
  have H := Zej hB
  have aO : (l.take n).length = n := by simp; omega
  have aA : ∀ (i : Nat) (o : Oper), l[i]? = some o -> o.guard = none := fun i o u => by
    have := Zxl.1 hG o (ZyD u)
    simpa using this
  have I : ∀ i, i < n -> (l.take n).toArray[i]? = l.toArray[i]? := fun i E => by simp [Zx8 E]
  have X : ∀ i, n <= i -> (l.take n).toArray[i]? = none := fun i E => by simp [ZxY (show (l.take n).length <= i by omega)]
  have p : ∀ (m : Array Bool) (b d : Bool) (i : Nat), m.size = n -> i < n -> (m.push b).getD i d = m.getD i d := fun m b d i s E => by
    rw [Zwh, Zwh, Zwr (by omega)]
    simp [Zwk (show i < m.size by omega)]
  have S : ∀ (m : Array Bool) (b d : Bool), m.size = n -> (m.push b).getD n d = b := fun m b d s => by
    rw [Zwh, <- s]
    simp
  have aG : ∀ (m : Array Bool) (b : Bool) (i : Nat), m.size = n -> i < n -> (i ∈ Region.ready .any l.toArray (m.push b) ↔ i ∈ Region.ready .any (l.take n).toArray m) := fun m b i s E => by
    rw [mem_ready, mem_ready, p _ _ _ _ s E, I i E]
    constructor
    · rintro ⟨D, o, u, h2⟩
      refine ⟨D, o, u, fun e N L => ?_⟩
      have := H.after i o e ((I i E).trans u) N L
      rw [<- p m b false e.on s (by omega)]
      exact h2 e N L
    · rintro ⟨D, o, u, h2⟩
      refine ⟨D, o, u, fun e N L => ?_⟩
      have := H.after i o e ((I i E).trans u) N L
      rw [p m b false e.on s (by omega)]
      exact h2 e N L
  have aH : ∀ (f : Nat) (m : Array Bool) (a : Act) (x : World), m.size = n -> wpAny P .any (l.take n).toArray (fun e a x => match e with | .normal => J.wp P a x (fun a' z => Q .normal a' z) Q | e => Q e a x) f m a x -> wpAny P .any l.toArray Q (f + 1) (m.push false) a x := by
    have Z : ∀ (f : Nat) (m : Array Bool) (a : Act) (x : World), m.size = n -> (∀ i, i < n -> m.getD i true = true) -> J.wp P a x (fun a' z => Q .normal a' z) Q -> wpAny P .any l.toArray Q (f + 1) (m.push false) a x := by
      intro f m a x s hu hw
      have aE : n ∈ Region.ready .any l.toArray (m.push false) := by
        rw [mem_ready]
        refine ⟨S _ _ _ s, J, by simpa using hz, fun e N L => ?_⟩
        have D := Zv8.1 hE e N
        rw [L] at D
        simp only [Bool.not_true, ZwQ, decide_eq_true_eq] at D
        rw [p _ _ _ _ s D]
        have := hu e.on D
        rw [Zwh, Zwk (by omega)] at this |-
        exact this
      refine ⟨fun h0 => (by rw [h0] at aE; cases aE), fun i E => ?_⟩
      have t : i = n := by
        obtain ⟨D, o, u, -⟩ := mem_ready.1 E
        have aC : i < l.length := by simpa using Zaz u
        rcases Zzg i n with h | h
        · rw [p _ _ _ _ s h, hu i h] at D
          cases D
        · omega
      subst t
      have R : (m.push false).setIfInBounds i true = m.push true := by
        apply Zwe
        intro j
        rw [Zwt, Zwq, Zwq]
        simp only [ZwF, s]
        by_cases h : i = j
        · subst h; simp [s]
        · simp [h, s, Ne.symm h]
      have aI : wpAny P .any l.toArray Q f (m.push true) = fun a' z => wpAny P .any l.toArray Q f (m.push true) a' z := rfl
      have G : Region.ready .any l.toArray (m.push true) = [] := by
        rw [ZxD]
        intro j U
        obtain ⟨D, o, u, -⟩ := mem_ready.1 U
        have aC : j < l.length := by simpa using Zaz u
        rcases Zzg j i with h | h
        · rw [p _ _ _ _ s h, hu j h] at D
          cases D
        · have : j = i := by omega
          subst this
          rw [S _ _ _ s] at D
          cases D
      have hK : ∀ a' z, Q .normal a' z -> wpAny P .any l.toArray Q f (m.push true) a' z := fun a' z h => by
        cases f with
        | zero => exact ⟨G, h⟩
        | succ f => exact ⟨fun _ => h, fun j U => by rw [G] at U; cases U⟩
      unfold wpOp
      have aM : l.toArray[i]? = some J := by simpa using hz
      simp only [aM]
      have aL : Region.wanted J (yielded l.toArray a.tmps) = true := by unfold Region.wanted; rw [aA i J hz]
      rw [if_pos aL, R]
      exact .inl (Oper.wp_mono hK hw)
    intro f
    induction f with
    | zero =>
      rintro m a x s ⟨hr, hq⟩
      exact Z 0 m a x s (fun i E => Zem H (by simp [s]; omega) hr i (by simp; omega)) hq
    | succ f ih =>
      rintro m a x s ⟨hr, hq⟩
      by_cases G : Region.ready .any (l.take n).toArray m = []
      · exact Z (f + 1) m a x s (fun i E => Zem H (by simp [s]; omega) G i (by simp; omega)) (hr G)
      · have aJ : ∀ i, i ∈ Region.ready .any l.toArray (m.push false) -> i < n := by
          intro i E
          obtain ⟨D, o, u, h2⟩ := mem_ready.1 E
          have aC : i < l.length := by simpa using Zaz u
          rcases Zzg i n with h | h
          · exact h
          · have t : i = n := by omega
            subst t
            exfalso
            obtain ⟨j, U⟩ := ZxG _ G
            obtain ⟨h3, o3, O, -⟩ := mem_ready.1 U
            have V : j < i := by
              rcases Zzg j i with h | h
              · exact h
              · rw [X j h] at O; cases O
            have aN : o = J := by
              rw [show l.toArray[i]? = l[i]? by simp, hz] at u
              exact (ZzE u).symm
            subst aN
            have h4 := Zxl.1 hA j (ZyF.2 V)
            obtain ⟨e, N, L⟩ := Array.any_eq_true'.1 h4
            simp only [ZwL, beq_iff_eq] at L
            have h5 := h2 e N L.1
            rw [L.2, p _ _ _ _ s V] at h5
            rw [Zwh, Zwk (by omega)] at h3 h5
            simp only [ZzA] at h3 h5
            rw [h3] at h5
            cases h5
        refine ⟨fun h0 => ?_, fun i E => ?_⟩
        · exfalso
          obtain ⟨j, U⟩ := ZxG _ G
          have V : j < n := by
            obtain ⟨h3, o3, O, -⟩ := mem_ready.1 U
            rcases Zzg j n with h | h
            · exact h
            · rw [X j h] at O; cases O
          have := (aG m false j s V).2 U
          rw [h0] at this
          cases this
        · have t := aJ i E
          have aB := (aG m false i s t).1 E
          have K := hq i aB
          obtain ⟨-, o, u, -⟩ := mem_ready.1 aB
          have aD : l.toArray[i]? = some o := (I i t).symm.trans u
          have hg := aA i o (by simpa using aD)
          unfold wpOp at K |-
          simp only [u] at K
          simp only [aD]
          have aF : ∀ y, Region.wanted o y = true := fun y => by unfold Region.wanted; rw [hg]
          rw [if_pos (aF _)] at K
          rw [if_pos (aF _)]
          have R : (m.push false).setIfInBounds i true = (m.setIfInBounds i true).push false := by
            apply Zwe
            intro j
            rw [Zwt, Zwq, Zwq, Zwt]
            simp only [ZwF, ZwG, s]
            by_cases h : i = j
            · subst h; simp [s, t, Nat.lt_succ_of_lt t, Nat.ne_of_lt t]
            · simp [h]
          rw [R]
          have Y : ∀ a' z, wpAny P .any (l.take n).toArray (fun e a x => match e with | .normal => J.wp P a x (fun a' z => Q .normal a' z) Q | e => Q e a x) f (m.setIfInBounds i true) a' z -> wpAny P .any l.toArray Q (f + 1) ((m.setIfInBounds i true).push false) a' z := fun a' z h => ih _ a' z (by simp [s]) h
          rcases K with K | ⟨K, h7⟩
          · left
            refine Oper.wp_mono Y ?_
            unfold Oper.wp at K |-
            generalize (execOp a.eval o).run P x = r at *
            cases r with
            | ok nx w' =>
              cases nx with
              | enter f' args => exact (show Calls P f' args w' _ from K).mono fun e aP N => by cases e <;> exact N
              | _ => exact K
            | halt v w' => cases v <;> exact K
          · right
            exact ⟨K, h7⟩
  have aK : (Array.replicate (l.take n).toArray.size false).push false = Array.replicate l.toArray.size false := by
    rw [<- ZwD]
    congr 1
    simp
    omega
  have := aH _ _ _ _ (by simp; omega) h
  rw [aK] at this
  refine wp_region_any hm ?_
  have e : (l.take n).toArray.size + 1 = l.toArray.size := by simp; omega
  rwa [e] at this
theorem ZdO{Q:Exit->Act->World->Prop} {a0:Act} {w:World} {l:List Oper} (w0:World)(C:World->Prop)(sp:List Nat)(I:Nat->Gh->Value)(J:(Nat->Bool)->(Nat->Gh)->World->Prop)(K:(Nat->Gh)->Act)(hB:Zay l.toArray=true)(hB':∀g,Zay (mixL sp I g 0 l).toArray=true)(hS:Region.noSelect l.toArray=true)(hN:spB l.toArray sp=true)(hC0:C w)(hCs:∀x R,C x->Below x.heap.size x R->C R)(hCw:∀x,C x->Below w0.heap.size w0 x)(h0:∀L,(∀j∈sp,L j=false)->J L (fun _=>Gh.zero) w)(hst:∀L L' g x R,(∀j∈sp,L' j=L j)->J L g x->Below x.heap.size x R->J L' g R)(hq:∀g u,C u->(∀(x:Grew u)(b o:Nat),b<u.heap.size->x.val.cell? ⟨b,o,none⟩=u.cell? ⟨b,o,none⟩)->Hid (∀x:Grew u,Below w0.heap.size w0 x.val)->Hid (∀x:Grew u,C x.val)->wpQuiet P (mixL sp I g 0 l).toArray (fun w'=>∃x:Grew u,w'=x.val) (fun a'=>a'=K g) (mixL sp I g 0 l) a0)(hind:∀j∈sp,∀g h,ZaN (ZaS l.toArray j 0 l []) 0 (K g).tmps.toList=ZaN (ZaS l.toArray j 0 l []) 0 (K (upd g j h)).tmps.toList)(hsp:∀j∈sp,∀o,l[j]?=some o->∀(L:Nat->Bool)(g:Nat->Gh)(x:World),J L g x->C x->Below w0.heap.size w0 x->L j=false->(∀e∈o.after,Region.binds .any e=true->L e.on=true)->(∀(i:Nat)(o:Oper),l[i]?=some o->L i=true->∀e∈o.after,Region.binds .any e=true->L e.on=true)->Zci P (fun v R=>C R/\((o.dst=none/\J (Zby L j) g R)∨∃h,v=I j h/\J (Zby L j) (upd g j h) R)) ((execOp (K g).eval o).run P x))(hend:∀g x,J (fun _=>true) g x->C x->Below w0.heap.size w0 x->Q .normal (K g) x):wpAny P .any l.toArray Q l.toArray.size (Array.replicate l.toArray.size false) a0 {w with drawn:=w.drawn+1}:=by
 have H:=Zej hB;have H':=fun g=>Zej (hB' g);have aA:=Region.noSelect_spec hS;have aT:∀j∈sp,∀o,l.toArray[j]?=some o->o.guard=none:=fun j r o p=>by unfold spB at hN;have:=Zxl.1 hN j r;rw[p]at this;simpa using this
 have N:∀g (j:Nat),(mixL sp I g 0 l).toArray[j]?=(l.toArray[j]?).map fun o=>if sp.contains j then yieldsC (I j (g j)) o else o:=fun g j=>by have:=ZcL sp I g l 0 j;simpa using this
 have aI:∀(g:Nat->Gh)(j:Nat)(o:Oper),(if sp.contains j=true then yieldsC (I j (g j)) o else o).dst=o.dst:=fun g j o=>by split<;>rfl
 have bJ:∀(g:Nat->Gh)(t:Array Value)(k:Nat),yielded (mixL sp I g 0 l).toArray t k=yielded l.toArray t k:=fun g t k=>by unfold yielded;rw[N];cases l.toArray[k]? with
  |none=>rfl|some o=>simp only[ZzD,Zzz,aI]
 have bH:∀(g:Nat->Gh)(o:Oper)(t:Array Value),Region.wanted o (yielded (mixL sp I g 0 l).toArray t)=Region.wanted o (yielded l.toArray t):=fun g o t=>by have:yielded (mixL sp I g 0 l).toArray t=yielded l.toArray t:=funext (bJ g t);rw[this]
 have aR:∀(g:Nat->Gh)(j:Nat)(o:Oper) cs b,(mixL sp I g 0 l).toArray[j]?=some o->o.op≠.select cs b:=fun g j o cs b p=>by rw[N]at p;cases r:l.toArray[j]? with|none=>rw[r]at p;cases p|some o'=>
   rw[r]at p;simp only[ZzD,ZzF]at p;subst p;split;·simp[yieldsC]
   ·exact aA j o' cs b r
 have O:=fun g u hu=>Zh0 (H' g) (aR g) (mixL sp I g 0 l) 0 a0 (fun j=>by simp) (hq g u hu (fun x=>x.cell) (fun x=>hCw _ (hCs _ _ hu x.ok)) (fun x=>hCs _ _ hu x.ok));have S:∀g,a0.tmps.size=(K g).tmps.size:=fun g=>(O g w hC0).2.1;have aN:∀g,a0.defers=(K g).defers:=fun g=>(O g w hC0).2.2.1;have bF:∀(g:Nat->Gh)(s:Nat),(∀(j:Nat)(V:Oper),l.toArray[j]?=some V->V.dst≠some s)->a0.tmps[s]?=(K g).tmps[s]?:=fun g s Y=>(O g w hC0).2.2.2 s fun j V _ r X=>by rw[N]at r;cases aP:l.toArray[j]? with|none=>rw[aP]at r;cases r|some o'=>rw[aP]at r;simp only[ZzD,ZzF]at r;exact Y j o' aP (by rw[<-X,<-r];exact(aI g j o').symm)
 have aF:∀(g:Nat->Gh)(i:Nat)(o:Oper),i∉sp->l.toArray[i]?=some o->∀u,C u->∃v,YieldsIn P l.toArray (above u) o v (K g)/\∀s,o.dst=some s->s<(K g).tmps.size->(K g).tmps[s]?=some v:=by
  intro g i o hi p u hu;have hc:sp.contains i=false:=by simpa using hi
  have D:(mixL sp I g 0 l).toArray[i]?=some o:=by rw[N,p];simp[hi]
  obtain⟨v,hy,hv⟩:=(O g u hu).1 i o (Zzx _) D;refine⟨v,?_,hv⟩;rw[Zky];unfold YieldsIn at*;rwa [bH]at hy
 have aW:∀(g:Nat->Gh)(j:Nat)(o:Oper)(d:Nat),j∈sp->l.toArray[j]?=some o->o.dst=some d->d<(K g).tmps.size->(K g).tmps[d]?=some (I j (g j)):=by
  intro g j o d r p X y;have hc:sp.contains j=true:=by simpa using r
  have D:(mixL sp I g 0 l).toArray[j]?=some (yieldsC (I j (g j)) o):=by rw[N,p];simp[r]
  obtain⟨v,hy,hv⟩:=(O g w hC0).1 j _ (Zzx _) D;have:=hv d X y;rw[this];rcases hy with⟨_,h2⟩|⟨h1,_⟩
  ·have h3:=h2 w ⟨⟨w,ZwJ _ _⟩,rfl⟩;unfold Oper.quietAt at h3;have h4:(execOp (K g).eval (yieldsC (I j (g j)) o)).run P w=.ok (.value (I j (g j))) w:=by unfold execOp yieldsC;rfl
   rw[h4]at h3;simp only[Oper.quietUpon]at h3;rw[h3.2]
  ·unfold Region.wanted at h1;rw[show (yieldsC (I j (g j)) o).guard=none from aT j r o p]at h1;cases h1
 have aM:∀(L:Nat->Bool),(∀(i:Nat)(o:Oper),l.toArray[i]?=some o->L i=true->∀e∈o.after,Region.binds .any e=true->L e.on=true)->∀j,L j=false->∀d∈ZaS l.toArray j 0 l [],∃(i:Nat)(o:Oper),l.toArray[i]?=some o/\o.dst=some d/\L i=false:=by
  intro L Z j r;refine Zh1 (G:=fun d=>∃(i:Nat) (o:Oper),l.toArray[i]?=some o/\o.dst=some d/\L i=false) ?_ l 0 [] (fun k=>by simp) (fun d X=>by simp at X);intro i o d p X bE;refine⟨i,o,p,X,?_⟩;rcases bE with rfl|⟨s,Y,i',o',D,bB,hL⟩;·exact r
  ·obtain⟨_,e,he,hb,aE⟩:=H.look i o s i' o' p Y D bB;cases aZ:L i with|false=>rfl|true=>have:=Z i o p aZ e he hb;rw[aE,hL]at this;cases this
 have aJ:∀(m:Array Bool)(a:Act)(x:World),m.size=l.toArray.size->Zc8 l.toArray C J K m a x->Region.ready .any l.toArray m=[]->Q .normal a x:=by
  rintro m a x hz ⟨hb,-,g,z,hJ⟩ hr;have hu:=Zem H hz hr;rw[Zkx z hu];have:(fun j=>m.getD j true)=fun _=>true:=funext fun j=>by
   by_cases r:j<l.toArray.size;·exact hu j r
   ·simp[Zwl (show m.size<=j by omega)]
  rw[this]at hJ;exact hend g x hJ hb (hCw _ hb)
 have aS:∀(m:Array Bool)(a:Act)(x:World)(i:Nat),i∈Region.ready .any l.toArray m->Zc8 l.toArray C J K m a x->wpOp P l.toArray Q i (fun a' R=>Zc8 l.toArray C J K (m.setIfInBounds i true) a' R) a x:=by
  rintro m a x i hi ⟨hb,Z,g,z,hJ⟩;obtain⟨U,o,p,aG⟩:=mem_ready.1 hi;have aV:=Zkv H z p hi;have aH:∀(i':Nat)(o':Oper),l.toArray[i']?=some o'->(m.setIfInBounds i true).getD i' true=true->∀e∈o'.after,Region.binds .any e=true->(m.setIfInBounds i true).getD e.on true=true:=by
   intro i' o' D hL e he aB;have bK:m.getD e.on true=true:=by
    by_cases aU:i=i';·subst aU;obtain rfl:o=o':=ZzE (p.symm.trans D);exact ZdL (aG e he aB)
    ·rw[getD_set_ne true aU]at hL;exact Z i' o' D hL e he aB
   by_cases aE:i=e.on;·rw[aE,Zf4]
   ·rw[getD_set_ne true aE];exact bK
  by_cases E:i∈sp
  ·have hg:=aT i E o p;have X:=hsp i E o (by simpa using p) _ g x hJ hb (hCw _ hb) U (fun e he aB=>ZdL (aG e he aB)) (fun i' o' D=>Z i' o' (by simpa using D));rw[<-ZhX (aA i o · · p) aV]at X;unfold wpOp;simp only[p];have bG:Region.wanted o (yielded l.toArray a.tmps)=true:=by unfold Region.wanted;rw[hg]
   rw[if_pos bG];refine .inl (ZkB X ?_);rintro v R ⟨bA,hK⟩;refine⟨bA,aH,?_⟩;rw[ZkC];rcases hK with⟨bD,aK⟩|⟨h,rfl,aK⟩;·exact⟨g,Zf3 H z p (fun s Y=>by rw[bD]at Y;cases Y),aK⟩
   ·refine⟨upd g i h,⟨by rw[Ze9];exact z.1.trans ((S g).symm.trans (S _)),by rw[Zf0];exact z.2.1.trans ((aN g).symm.trans (aN _)),fun s Y=>?_⟩,aK⟩;by_cases aD:o.dst=some s
    ·rw[aD];by_cases y:s<(K (upd g i h)).tmps.size;·rw[Zf1 (by rw[z.1,<-S g,S (upd g i h)];exact y),aW _ i o s E p aD y];unfold upd;rw[if_pos rfl]
     ·rw[ZhZ (by rw[z.1,<-S g,S (upd g i h)];exact y),Zwl (by omega)]
    ·rw[Ze8 aD];have aX:∀(j:Nat)(V:Oper),l.toArray[j]?=some V->V.dst=some s->m.getD j true=true:=fun j V r aC=>by
      have aO:i≠j:=by rintro rfl;obtain rfl:o=V:=ZzE (p.symm.trans r);exact aD aC
      have:=Y j V r aC;rwa [getD_set_ne true aO]at this
     rw[z.2.2 s aX];refine ZkA (hind i E g h) fun hc=>?_;obtain⟨j,V,r,aC,hL⟩:=aM (fun j=>m.getD j true) Z i U s hc;have:=aX j V r aC;rw[this]at hL;cases hL
  ·obtain⟨v,hy,hv⟩:=aF g i o E p x hb;have bI:=ZhY (aA i o · · p) (fun s Y=>(aV s Y).symm) hy;refine Zkw p bI (ZwJ _ _) fun R aY=>⟨hCs _ _ hb aY,aH,g,Zf3 H z p hv,?_⟩;refine hst _ _ g x R (fun j r=>?_) hJ aY;have aO:i≠j:=by rintro rfl;exact E r
   rw[getD_set_ne true aO]
 have aQ:∀(f:Nat)(m:Array Bool)(a:Act)(x:World),m.size=l.toArray.size->Zek l.toArray.size m<=f->Zc8 l.toArray C J K m a x->wpAny P .any l.toArray Q f m a x:=by intro f;induction f with
  |zero=>
   intro m a x hz hf h;have hr:Region.ready .any l.toArray m=[]:=by rw[ZxD];intro i hi;obtain⟨U,o,p,_⟩:=mem_ready.1 hi;have:=Zf2 (n:=l.toArray.size) (Zaz p) U;omega
   exact⟨hr,aJ m a x hz h hr⟩|succ f ih=>intro m a x hz hf h;refine⟨fun hr=>aJ m a x hz h hr,fun i hi=>?_⟩;obtain⟨U,o,p,_⟩:=mem_ready.1 hi;have hl:=Zf2 (n:=l.toArray.size) (Zaz p) U;exact wpOp_mono (fun a' R h'=>ih _ a' R (by simpa using hz) (by omega) h') (aS m a x i hi h)
 have aL:∀j,j<l.length->(Array.replicate l.toArray.size false).getD j true=false:=fun j r=>by simp[r]
 refine aQ _ _ _ _ (by simp) ?_ ⟨hCs _ _ hC0 (ZwJ _ w).drew,fun i o p hL=>?_,fun _=>Gh.zero,⟨S _,aN _,fun s Y=>?_⟩,?_⟩;·unfold Zek;exact Zzb (Zye _ _) (by simp)
 ·have y:=Zaz p;simp only[ZyT]at y;rw[aL i y]at hL;cases hL
 ·refine bF _ s fun j V r X=>?_;have:=Y j V r X;have y:=Zaz r;simp only[ZyT]at y;rw[aL j y]at this;cases this
 ·refine hst _ _ _ w _ (fun _ _=>rfl) (h0 _ fun j r=>?_) (ZwJ _ w).drew;have:∃o,l.toArray[j]?=some o:=by unfold spB at hN;have:=Zxl.1 hN j r;cases p:l.toArray[j]? with
   |none=>rw[p]at this;cases this|some o=>exact⟨o,rfl⟩
  obtain⟨o,p⟩:=this;have y:=Zaz p;simp only[ZyT]at y;exact aL j y
theorem ZkU{s:Nat} {Q:Exit->Act->World->Prop} {a0:Act} {w:World} {l:List Oper} (w0:World)(C:World->Prop)(sp:List Nat)(m:Nat->Gh->Value)(J:(Nat->Bool)->(Nat->Gh)->World->Prop)(f:(Nat->Gh)->Act)(hm:P.follows .mixedOrders=true)(hB:Zay l.toArray=true)(hB':∀g,Zay (mixL sp m g 0 l).toArray=true)(hS:Region.noSelect l.toArray=true)(hN:spB l.toArray sp=true)(hC0:C w)(hCs:∀x d,C x->Below x.heap.size x d->C d)(hCw:∀x,C x->Below w0.heap.size w0 x)(h0:∀L,(∀j∈sp,L j=false)->J L (fun _=>Gh.zero) w)(hst:∀L p g x d,(∀j∈sp,p j=L j)->J L g x->Below x.heap.size x d->J p g d)(hq:∀g u,C u->(∀(x:Grew u)(b o:Nat),b<u.heap.size->x.val.cell? ⟨b,o,none⟩=u.cell? ⟨b,o,none⟩)->Hid (∀x:Grew u,Below w0.heap.size w0 x.val)->Hid (∀x:Grew u,C x.val)->wpQuiet P (mixL sp m g 0 l).toArray (fun t=>∃x:Grew u,t=x.val) (fun r=>r=f g) (mixL sp m g 0 l) a0)(hind:∀j∈sp,∀g h,ZaN (ZaS l.toArray j 0 l []) 0 (f g).tmps.toList=ZaN (ZaS l.toArray j 0 l []) 0 (f (upd g j h)).tmps.toList)(hsp:∀j∈sp,∀o,l[j]?=some o->∀(L:Nat->Bool)(g:Nat->Gh)(x:World),J L g x->C x->Below w0.heap.size w0 x->L j=false->(∀e∈o.after,Region.binds .any e=true->L e.on=true)->(∀(i:Nat)(o:Oper),l[i]?=some o->L i=true->∀e∈o.after,Region.binds .any e=true->L e.on=true)->Zci P (fun v d=>C d/\((o.dst=none/\J (Zby L j) g d)∨∃h,v=m j h/\J (Zby L j) (upd g j h) d)) ((execOp (f g).eval o).run P x))(hend:∀g x,J (fun _=>true) g x->C x->Below w0.heap.size w0 x->Q .normal (f g) x):(Code.region s l.toArray true).wp P Q a0 w:=wp_region_any hm (ZdO w0 C sp m J f hB hB' hS hN hC0 hCs hCw h0 hst hq hind hsp hend)
end
section
variable {P:Program}
theorem ZkV{f:Operand->Value} {o:Oper} {t:TypeId} {p:Operand} {b off:Nat} {n:Int} {x:World} (i:o.op=.load t p)(d:Sem.run P (isAgg t) x=.ok false x)(hp:f p=.pointer (some ⟨b,off,none⟩))(h:x.cell? ⟨b,off,none⟩=some (.int .i64 n)):(execOp f o).run P x=.ok (.value (.int .i64 n)) x:=by unfold execOp;rw[i];simp[go_sem,hp,h,d]
theorem Zib{f:Operand->Value} {o:Oper} {t:TypeId} {p q:Operand} {b off:Nat} {n:Int} {u:Value} {x:World} (i:o.op=.store t p q)(d:Sem.run P (sizeOf t) x=.ok 1 x)(hp:f p=.pointer (some ⟨b,off,none⟩))(hq:f q=.int .i64 n)(h:x.cell? ⟨b,off,none⟩=some u)(hf:x.frozen? ⟨b,off,none⟩=false):(execOp f o).run P x=.ok .skip (x.setCell ⟨b,off,none⟩ (.int .i64 n)):=by unfold execOp;rw[i];simp[go_sem,hp,hq,h,hf,d]
def mkMAS(c n:Nat):Nat->Gh->Value:=fun j h=>if j=c then .slice (some ⟨h.b,0,none⟩) n n else .pointer (some ⟨h.b,0,none⟩)
theorem Zpn{id:Nat} {Q:Exit->Act->World->Prop} {a0:Act} {w:World} {l:List Oper} (w0:World)(c m k n:Nat)(Y Z:Obj)(X:Gh->Obj)(s:(Nat->Gh)->Act)(hm:P.follows .mixedOrders=true)(hB:Zay l.toArray=true)(hB':∀g,Zay (mixL [c,m,k] (mkMAS c n) g 0 l).toArray=true)(hS:Region.noSelect l.toArray=true)(hN:spB l.toArray [c,m,k]=true)(hne:c≠m/\c≠k/\m≠k)(hkd:(match l[k]? with|some o=>o.dst.isNone|none=>false)=true)(hcl:∀L:Nat->Bool,(∀(i:Nat)(o:Oper),l[i]?=some o->L i=true->∀e∈o.after,Region.binds .any e=true->L e.on=true)->∀o,l[k]?=some o->(∀e∈o.after,Region.binds .any e=true->L e.on=true)->L c=true/\L m=true)(hw:Below w0.heap.size w0 w)(hal1:∀o,l[c]?=some o->∀(g:Nat->Gh) (x:World),Below w.heap.size w x->(execOp (s g).eval o).run P x=.ok (.value (.slice (some ⟨x.heap.size,0,none⟩) n n)) (x.alloc Y))(hal2:∀o,l[m]?=some o->∀(g:Nat->Gh) (x:World),(execOp (s g).eval o).run P x=.ok (.value (.pointer (some ⟨x.heap.size,0,none⟩))) (x.alloc Z))(hq:∀g u,Below w.heap.size w u->(∀(x:Grew u)(b o:Nat),b<u.heap.size->x.val.cell? ⟨b,o,none⟩=u.cell? ⟨b,o,none⟩)->Hid (∀x:Grew u,Below w0.heap.size w0 x.val)->Hid (∀x:Grew u,Below w.heap.size w x.val)->wpQuiet P (mixL [c,m,k] (mkMAS c n) g 0 l).toArray (fun w'=>∃x:Grew u,w'=x.val) (fun a'=>a'=s g) (mixL [c,m,k] (mkMAS c n) g 0 l) a0)(hind:∀j∈[c,m,k],∀g h,ZaN (ZaS l.toArray j 0 l []) 0 (s g).tmps.toList=ZaN (ZaS l.toArray j 0 l []) 0 (s (upd g j h)).tmps.toList)(hs:∀o,l[k]?=some o->∀(g:Nat->Gh)(x:World),Below w.heap.size w x->x.heap[(g m).b]?=some Z->∃D,(execOp (s g).eval o).run P x=.ok .skip D/\OnlyB (g m).b x D/\D.heap[(g m).b]?=some (X (g c)))(hend:∀(g:Nat->Gh)(x:World),w.heap.size<=(g c).b->w.heap.size<=(g m).b->(g c).b≠(g m).b->Below w.heap.size w x->Below w0.heap.size w0 x->x.heap[(g c).b]?=some Y->x.heap[(g m).b]?=some (X (g c))->Q .normal (s g) x):(Code.region id l.toArray true).wp P Q a0 w:=by
 obtain⟨r,U,V⟩:=hne;refine ZkU w0 (fun x=>Below w.heap.size w x) [c,m,k] (mkMAS c n) (fun L g x=>(L c=false->L k=false)/\(L m=false->L k=false)/\(L c=true->w.heap.size<=(g c).b/\x.heap[(g c).b]?=some Y)/\(L m=true->w.heap.size<=(g m).b/\x.heap[(g m).b]?=some (if L k=true then X (g c)else Z))/\(L c=true->L m=true->(g c).b≠(g m).b)) s hm hB hB' hS hN (ZwJ _ _) (fun x D h O=>h.trans (O.mono h.size)) (fun x h=>via hw h) ?_ ?_ hq hind ?_ ?_
 ·intro L h;have a1:=h c (by simp);have a2:=h m (by simp);have a3:=h k (by simp);refine⟨fun _=>a3,fun _=>a3,fun h=>?_,fun h=>?_,fun h=>?_⟩;·rw[a1]at h;cases h
  ·rw[a2]at h;cases h
  ·rw[a1]at h;cases h
 ·rintro L L' g x D h ⟨K,N,f,t,y⟩ O;rw[h c (by simp),h m (by simp),h k (by simp)];exact⟨K,N,fun H=>⟨(f H).1,Zw O (f H).2⟩,fun H=>⟨(t H).1,Zw O (t H).2⟩,y⟩
 ·intro j hj o I L g x ⟨K,N,f,t,y⟩ d E S p G;simp only[Zyx,ZyN,or_false]at hj;rcases hj with rfl|rfl|rfl
  ·have z:=K S;refine Zau (hal1 o I g x d) ⟨ZjZ d _,.inr ⟨{Gh.zero with b:=x.heap.size},by unfold mkMAS;rw[if_pos rfl],?_,?_,?_,?_,?_⟩⟩;·intro h;rw[Za6]at h;cases h
   ·intro h;rw[ZK (Ne.symm U)];exact z
   ·intro _;rw[Zag];exact⟨d.size,ZA _ _ rfl⟩
   ·intro h;rw[ZK (Ne.symm r)]at h;rw[ZK (Ne.symm U),upd_ne (Ne.symm r),z];have:=t h;rw[z]at this;exact⟨this.1,Zz this.2 _⟩
   ·intro _ h;rw[ZK (Ne.symm r)]at h;rw[Zag,upd_ne (Ne.symm r)];have:=ZI (t h).2;dsimp only;omega
  ·have z:=N S;refine Zau (hal2 o I g x) ⟨ZjZ d _,.inr ⟨{Gh.zero with b:=x.heap.size},by unfold mkMAS;rw[if_neg (Ne.symm r)],?_,?_,?_,?_,?_⟩⟩;·intro h;rw[ZK (Ne.symm V)];exact z
   ·intro h;rw[Za6]at h;cases h
   ·intro h;rw[ZK r]at h;rw[upd_ne r];exact⟨(f h).1,Zz (f h).2 _⟩
   ·intro _;rw[Zag,ZK (Ne.symm V),z];exact⟨d.size,ZA _ _ rfl⟩
   ·intro h _;rw[ZK r]at h;rw[Zag,upd_ne r];have:=ZI (f h).2;dsimp only;omega
  ·obtain⟨J,R⟩:=hcl L G o I p;obtain⟨p1,p2⟩:=t R;rw[if_neg (by rw[S];decide)]at p2;obtain⟨D,r1,r2,r3⟩:=hs o I g x d p2;rw[I]at hkd;refine Zc7 r1 ⟨d.trans (r2.below _ p1),.inl ⟨by simpa using hkd,?_,?_,?_,?_,?_⟩⟩;·intro h;rw[ZK U,J]at h;cases h
   ·intro h;rw[ZK V,R]at h;cases h
   ·intro _;exact⟨(f J).1,r2.keep (y J R) (f J).2⟩
   ·intro _;rw[Za6,if_pos rfl];exact⟨p1,r3⟩
   ·intro _ _;exact y J R
 ·rintro g x ⟨K,N,f,t,y⟩ d E;have:=t rfl;rw[if_pos rfl]at this;exact hend g x (f rfl).1 this.1 (y rfl rfl) d E (f rfl).2 this.2
theorem Zpo{id:Nat} {Q:Exit->Act->World->Prop} {a0:Act} {w:World} {l:List Oper} (w0:World)(p q k r:Nat)(b:Nat)(O R:Value)(zz:Bool->Bool->Obj)(s:(Nat->Gh)->Act)(hm:P.follows .mixedOrders=true)(hB:Zay l.toArray=true)(hB':∀g,Zay (mixL [p,q,k,r] (fun j _=>if j=p then O else R) g 0 l).toArray=true)(hS:Region.noSelect l.toArray=true)(hN:spB l.toArray [p,q,k,r]=true)(hne:p≠q/\p≠k/\p≠r/\q≠k/\q≠r/\k≠r)(hkd:(match l[k]?,l[r]? with|some o,some o'=>o.dst.isNone&&o'.dst.isNone|_,_=>false)=true)(hcl:∀L:Nat->Bool,(∀(i:Nat)(o:Oper),l[i]?=some o->L i=true->∀e∈o.after,Region.binds .any e=true->L e.on=true)->((L k=true->L p=true/\L q=true)/\(L r=true->L p=true/\L q=true))/\(∀o,l[k]?=some o->(∀e∈o.after,Region.binds .any e=true->L e.on=true)->L p=true/\L q=true)/\(∀o,l[r]?=some o->(∀e∈o.after,Region.binds .any e=true->L e.on=true)->L p=true/\L q=true))(hw:Below w0.heap.size w0 w)(hb:w0.heap.size<=b)(hb0:w.heap[b]?=some (zz false false))(hp:∀o,l[p]?=some o->∀(g:Nat->Gh)(x:World),x.heap[b]?=some (zz false false)->(execOp (s g).eval o).run P x=.ok (.value O) x)(hqq:∀o,l[q]?=some o->∀(g:Nat->Gh)(x:World),x.heap[b]?=some (zz false false)->(execOp (s g).eval o).run P x=.ok (.value R) x)(hq:∀g u,w.grownBy u (some b)->(∀(x:Grew u)(b o:Nat),b<u.heap.size->x.val.cell? ⟨b,o,none⟩=u.cell? ⟨b,o,none⟩)->Hid (∀x:Grew u,Below w0.heap.size w0 x.val)->Hid (∀x:Grew u,w.grownBy x.val (some b))->wpQuiet P (mixL [p,q,k,r] (fun j _=>if j=p then O else R) g 0 l).toArray (fun w'=>∃x:Grew u,w'=x.val) (fun a'=>a'=s g) (mixL [p,q,k,r] (fun j _=>if j=p then O else R) g 0 l) a0)(hind:∀j∈[p,q,k,r],∀g h,ZaN (ZaS l.toArray j 0 l []) 0 (s g).tmps.toList=ZaN (ZaS l.toArray j 0 l []) 0 (s (upd g j h)).tmps.toList)(hs1:∀o,l[k]?=some o->∀(f:Bool)(g:Nat->Gh)(x:World),x.heap[b]?=some (zz false f)->∃d,(execOp (s g).eval o).run P x=.ok .skip d/\OnlyB b x d/\d.heap[b]?=some (zz true f))(hs2:∀o,l[r]?=some o->∀(f:Bool)(g:Nat->Gh)(x:World),x.heap[b]?=some (zz f false)->∃d,(execOp (s g).eval o).run P x=.ok .skip d/\OnlyB b x d/\d.heap[b]?=some (zz f true))(hend:∀(g:Nat->Gh)(x:World),w.grownBy x (some b)->Below w0.heap.size w0 x->x.heap[b]?=some (zz true true)->Q .normal (s g) x):(Code.region id l.toArray true).wp P Q a0 w:=by
 obtain⟨n1,n2,n3,n4,n5,n6⟩:=hne;have I:∀{x d:World},OnlyB b x d->x.grownBy d (some b):=fun {x d} h=>⟨(h.below 0 (Zzx _)).os,(h.below 0 (Zzx _)).tape,(h.below 0 (Zzx _)).output,(h.below 0 (Zzx _)).size,fun i _ hi=>h.other i fun e=>hi (by rw[e])⟩;have t:∀{x d y:World},x.grownBy d (some b)->d.grownBy y (some b)->x.grownBy y (some b):=fun h k=>World.grownBy.trans h k;refine ZkU w0 (fun x=>w.grownBy x (some b)) [p,q,k,r] _ (fun L g x=>x.heap[b]?=some (zz (L k) (L r))) s hm hB hB' hS hN ⟨rfl,rfl,rfl,Zza _,fun _ _ _=>rfl⟩ (fun x d h hb=>t h ⟨hb.os,hb.tape,hb.output,hb.size,fun k z _=>hb.block k z⟩) (fun x h=>ZoQ hw h fun i e=>by cases e;exact hb) ?_ ?_ hq hind ?_ ?_;·intro L h;rw[h k (by simp),h r (by simp)];exact hb0
 ·rintro L L' g x d h m S;rw[h k (by simp),h r (by simp)];exact Zw S m
 ·intro j hj o G L g x m D H E N J;obtain⟨⟨Y,Z⟩,c3,c4⟩:=hcl L J;simp only[Zyx,ZyN,or_false]at hj;rcases hj with rfl|rfl|rfl|rfl
  ·have z:L k=false:=by cases h:L k;rfl;have:=(Y h).1;rw[E]at this;cases this
   have K:L r=false:=by cases h:L r;rfl;have:=(Z h).1;rw[E]at this;cases this
   rw[z,K]at m;refine Zau (hp o G g x m) ⟨D,.inr ⟨Gh.zero,by rw[if_pos rfl],?_⟩⟩;rw[ZK (Ne.symm n2),ZK (Ne.symm n3),z,K];exact m
  ·have z:L k=false:=by cases h:L k;rfl;have:=(Y h).2;rw[E]at this;cases this
   have K:L r=false:=by cases h:L r;rfl;have:=(Z h).2;rw[E]at this;cases this
   rw[z,K]at m;refine Zau (hqq o G g x m) ⟨D,.inr ⟨Gh.zero,by rw[if_neg (Ne.symm n1)],?_⟩⟩;rw[ZK (Ne.symm n4),ZK (Ne.symm n5),z,K];exact m
  ·rw[E]at m;obtain⟨d,U,V,X⟩:=hs1 o G _ g x m;refine Zc7 U ⟨t D (I V),.inl ⟨?_,?_⟩⟩
   ·rw[G]at hkd;split at hkd;·rename_i e1 e2;cases e1;simp only[ZwL]at hkd;simpa using hkd.1
    ·cases hkd
   ·rw[Za6,ZK (Ne.symm n6)];exact X
  ·rw[E]at m;obtain⟨d,U,V,X⟩:=hs2 o G _ g x m;refine Zc7 U ⟨t D (I V),.inl ⟨?_,?_⟩⟩
   ·rw[G]at hkd;split at hkd;·rename_i e1 e2;cases e2;simp only[ZwL]at hkd;simpa using hkd.2
    ·cases hkd
   ·rw[Za6,ZK n6];exact X
 ·intro g x m D H;exact hend g x D H m
end
section
variable {P:Program}
def Za8(w0 w:World)(v:Value)(x:World):Prop:=Below w0.heap.size w0 x/\w.heap.size<=x.heap.size/\∀k,k<w.heap.size->some k≠v.ownBlock->x.heap[k]?=w.heap[k]?
theorem Za8.refl{w0 w:World} {v:Value} (h:Below w0.heap.size w0 w):Za8 w0 w v w:=⟨h,Zza _,fun _ _ _=>rfl⟩
theorem Za8.below{w0 w x f:World} {v:Value} (h:Za8 w0 w v x)(hb:Below x.heap.size x f):Za8 w0 w v f:=⟨via h.1 hb,Zzb h.2.1 hb.size,fun k d i=>(hb.block k (Zzf d h.2.1)).trans (h.2.2 k d i)⟩
theorem Za8.grown{w0 w x p:World} {v:Value} {row:Option Nat} (h:Za8 w0 w v x)(hw:w0.heap.size<=w.heap.size)(hv0:∀r,v.ownBlock=some r->w0.heap.size<=r)(f:x.grownBy p row)(m:∀r,row=some r->w.heap.size<=r∨v.ownBlock=some r):Za8 w0 w v p:=⟨Z3 h.1 f fun b e=>by
  rcases m b e with d|d;·omega
  ·exact hv0 b d,Zzb h.2.1 f.size,fun k i o=>(f.block k (Zzf i h.2.1) fun e=>by
   rcases m k e.symm with d|d;·omega
   ·exact o d.symm).trans (h.2.2 k i o)⟩
def mkR6(m0 c m1 q1 m2 n nq:Nat):Nat->Gh->Value:=fun j g=>if j=m0 then .slice (some ⟨g.b,0,none⟩) 0 0 else if j=c then .slice g.a1 n g.c1 else if j=m1 then .slice (some ⟨g.b,0,none⟩) 1 1 else if j=m2 then .slice (some ⟨g.b,0,none⟩) 1 1 else if j=q1 then .slice g.a1 (n+1) g.c1 else .slice g.a1 (nq+1) g.c1
theorem Zpp{Q:Exit->Act->World->Prop} {a0:Act} {w:World} {l:List Oper} (w0:World)(m0 c m1 q1 m2 q2:Nat)(n nq:Nat)(e1:TypeId)(xs ys:List Value)(z0 z1:Obj)(z2:Gh->Obj)(row:Gh->List Value)(U:Nat)(Y:TypeId)(v:Value)(X:List Value)(D:(Nat->Gh)->Act)(hB:Zay l.toArray=true)(hB':∀g,Zay (mixL [m0,c,m1,q1,m2,q2] (mkR6 m0 c m1 q1 m2 n nq) g 0 l).toArray=true)(hS:Region.noSelect l.toArray=true)(hN:spB l.toArray [m0,c,m1,q1,m2,q2]=true)(hne:m0≠c/\m0≠m1/\m0≠q1/\m0≠m2/\m0≠q2/\c≠m1/\c≠q1/\c≠m2/\c≠q2/\m1≠q1/\m1≠m2/\m1≠q2/\q1≠m2/\q1≠q2/\m2≠q2)(hd1:∀L:Nat->Bool,(∀(i:Nat)(o:Oper),l[i]?=some o->L i=true->∀e∈o.after,Region.binds .any e=true->L e.on=true)->(∀o,l[q1]?=some o->(∀e∈o.after,Region.binds .any e=true->L e.on=true)->L c=true/\L m1=true)/\(∀o,l[m2]?=some o->(∀e∈o.after,Region.binds .any e=true->L e.on=true)->L q1=true)/\(∀o,l[q2]?=some o->(∀e∈o.after,Region.binds .any e=true->L e.on=true)->L m2=true))(hw:Below w0.heap.size w0 w)(hv0:∀r,v.ownBlock=some r->w0.heap.size<=r)(hown:w.ownsRow U Y 1 v nq X)(hal0:∀o,l[m0]?=some o->∀(g:Nat->Gh) (x:World),(execOp (D g).eval o).run P x=.ok (.value (.slice (some ⟨x.heap.size,0,none⟩) 0 0)) (x.alloc z0))(hcl:∀o,l[c]?=some o->∀(g:Nat->Gh)(x:World),Za8 w0 w v x->∃z s,(execOp (D g).eval o).run P x=.ok (.value z) s/\s.ownsRow w.heap.size e1 1 z n xs/\Below x.heap.size x s)(hal1:∀o,l[m1]?=some o->∀(g:Nat->Gh) (x:World),(execOp (D g).eval o).run P x=.ok (.value (.slice (some ⟨x.heap.size,0,none⟩) 1 1)) (x.alloc z1))(hap1:∀o,l[q1]?=some o->∀(g:Nat->Gh) (x:World),Za8 w0 w v x->x.ownsRow w.heap.size e1 1 (.slice (g c).a1 n (g c).c1) n xs->x.heap[(g m1).b]?=some z1->∃z s,(execOp (D g).eval o).run P x=.ok (.value z) s/\s.ownsRow w.heap.size e1 1 z (n+1) (xs++ys)/\x.grownBy s (Value.slice (g c).a1 n (g c).c1).ownBlock)(hal2:∀o,l[m2]?=some o->∀(g:Nat->Gh) (x:World),(execOp (D g).eval o).run P x=.ok (.value (.slice (some ⟨x.heap.size,0,none⟩) 1 1)) (x.alloc (z2 (g q1))))(hap2:∀o,l[q2]?=some o->∀(g:Nat->Gh) (x:World),Za8 w0 w v x->x.ownsRow U Y 1 v nq X->x.heap[(g m2).b]?=some (z2 (g q1))->∃z s,(execOp (D g).eval o).run P x=.ok (.value z) s/\s.ownsRow U Y 1 z (nq+1) (X++row (g q1))/\x.grownBy s v.ownBlock/\(z.ownBlock=v.ownBlock∨z.ownBlock=some x.heap.size))(hq:∀g u,Za8 w0 w v u->(∀(x:Grew u)(b o:Nat),b<u.heap.size->x.val.cell? ⟨b,o,none⟩=u.cell? ⟨b,o,none⟩)->Hid (∀x:Grew u,Below w0.heap.size w0 x.val)->Hid (∀x:Grew u,Za8 w0 w v x.val)->wpQuiet P (mixL [m0,c,m1,q1,m2,q2] (mkR6 m0 c m1 q1 m2 n nq) g 0 l).toArray (fun w'=>∃x:Grew u,w'=x.val) (fun a'=>a'=D g) (mixL [m0,c,m1,q1,m2,q2] (mkR6 m0 c m1 q1 m2 n nq) g 0 l) a0)(hind:∀j∈[m0,c,m1,q1,m2,q2],∀g h,ZaN (ZaS l.toArray j 0 l []) 0 (D g).tmps.toList=ZaN (ZaS l.toArray j 0 l []) 0 (D (upd g j h)).tmps.toList)(hend:∀(g:Nat->Gh) (x:World),Za8 w0 w v x->x.ownsRow w.heap.size e1 1 (.slice (g q1).a1 (n+1) (g q1).c1) (n+1) (xs++ys)->x.ownsRow U Y 1 (.slice (g q2).a1 (nq+1) (g q2).c1) (nq+1) (X++row (g q1))->((Value.slice (g q2).a1 (nq+1) (g q2).c1).ownBlock=v.ownBlock∨∃r,(Value.slice (g q2).a1 (nq+1) (g q2).c1).ownBlock=some r/\w.heap.size<=r/\some r≠(Value.slice (g q1).a1 (n+1) (g q1).c1).ownBlock)->Q .normal (D g) x):wpAny P .any l.toArray Q l.toArray.size (Array.replicate l.toArray.size false) a0 {w with drawn:=w.drawn+1}:=by
 obtain⟨o1,o2,o3,o4,o5,n1,n2,n3,n4,n5,n6,n7,n8,n9,G⟩:=hne;have R:∀r,v.ownBlock=some r->r<w.heap.size:=fun r e=>(hown.lt r e).2;refine ZdO w0 (Za8 w0 w v) [m0,c,m1,q1,m2,q2] (mkR6 m0 c m1 q1 m2 n nq) (fun L g x=>((L q1=true->L c=true/\L m1=true)/\(L m2=true->L q1=true)/\(L q2=true->L m2=true))/\(L q1=false->L c=true->x.ownsRow w.heap.size e1 1 (.slice (g c).a1 n (g c).c1) n xs)/\(L q1=false->L m1=true->w.heap.size<=(g m1).b/\x.heap[(g m1).b]?=some z1)/\(L q1=true->x.ownsRow w.heap.size e1 1 (.slice (g q1).a1 (n+1) (g q1).c1) (n+1) (xs++ys))/\(L q2=false->L m2=true->w.heap.size<=(g m2).b/\x.heap[(g m2).b]?=some (z2 (g q1)))/\(L q2=false->x.ownsRow U Y 1 v nq X)/\(L q2=true->x.ownsRow U Y 1 (.slice (g q2).a1 (nq+1) (g q2).c1) (nq+1) (X++row (g q1))/\((Value.slice (g q2).a1 (nq+1) (g q2).c1).ownBlock=v.ownBlock∨∃r,(Value.slice (g q2).a1 (nq+1) (g q2).c1).ownBlock=some r/\w.heap.size<=r/\some r≠(Value.slice (g q1).a1 (n+1) (g q1).c1).ownBlock))) D hB hB' hS hN (Za8.refl hw) (fun x s h y=>h.below y) (fun x h=>h.1) ?_ ?_ hq hind ?_ ?_;·intro L h;have a1:=h c (by simp);have a2:=h m1 (by simp);have a3:=h q1 (by simp);have a4:=h m2 (by simp);have a5:=h q2 (by simp);rw[a1,a2,a3,a4,a5];exact⟨⟨(fun h=>by cases h),(fun h=>by cases h),(fun h=>by cases h)⟩,(fun _ h=>by cases h),(fun _ h=>by cases h),(fun h=>by cases h),(fun _ h=>by cases h),fun _=>hown,(fun h=>by cases h)⟩
 ·rintro L L' g x s h ⟨j0,j1,j2,j3,j4,K,N⟩ y;have a1:=h c (by simp);have a2:=h m1 (by simp);have a3:=h q1 (by simp);have a4:=h m2 (by simp);have a5:=h q2 (by simp);rw[a1,a2,a3,a4,a5];exact⟨j0,fun h m=>ZP (j1 h m) y,fun h m=>⟨(j2 h m).1,Zw y (j2 h m).2⟩,fun h=>ZP (j3 h) y,fun h m=>⟨(j4 h m).1,Zw y (j4 h m).2⟩,fun h=>ZP (K h) y,fun h=>⟨ZP (N h).1 y,(N h).2⟩⟩
 ·intro j hj o I L g x ⟨⟨k1,k2,k3⟩,j1,j2,j3,j4,K,N⟩ t aA J f Z;obtain⟨d1,d2,d3⟩:=hd1 L Z;have S:L q1=false->L m2=false/\L q2=false:=fun h=>by
   have a:L m2=false:=by cases H:L m2 with|false=>rfl|true=>rw[k2 H]at h;cases h
   refine⟨a,?_⟩;cases H:L q2 with|false=>rfl|true=>rw[k3 H]at a;cases a
  have aC:L m2=false->L q2=false:=fun h=>by cases H:L q2 with
   |false=>rfl|true=>rw[k3 H]at h;cases h
  have nc:L c=false->L q1=false:=fun h=>by cases H:L q1 with|false=>rfl|true=>rw[(k1 H).1]at h;cases h
  have aB:L m1=false->L q1=false:=fun h=>by cases H:L q1 with
   |false=>rfl|true=>rw[(k1 H).2]at h;cases h
  simp only[Zyx,ZyN,or_false]at hj;rcases hj with rfl|rfl|rfl|rfl|rfl|rfl;·refine Zau (hal0 o I g x) ⟨t.below (ZC _ _),.inr ⟨{Gh.zero with b:=x.heap.size},by simp[mkR6],?_⟩⟩;rw[ZK (Ne.symm o1),ZK (Ne.symm o2),ZK (Ne.symm o3),ZK (Ne.symm o4),ZK (Ne.symm o5),upd_ne (Ne.symm o1),upd_ne (Ne.symm o2),upd_ne (Ne.symm o3),upd_ne (Ne.symm o4),upd_ne (Ne.symm o5)];have y:=ZC x z0;exact⟨⟨k1,k2,k3⟩,fun h m=>ZP (j1 h m) y,fun h m=>⟨(j2 h m).1,Zw y (j2 h m).2⟩,fun h=>ZP (j3 h) y,fun h m=>⟨(j4 h m).1,Zw y (j4 h m).2⟩,fun h=>ZP (K h) y,fun h=>⟨ZP (N h).1 y,(N h).2⟩⟩
  ·have p:=nc J;obtain⟨l2,E⟩:=S p;obtain⟨z,s,r1,p1,p2⟩:=hcl o I g x t;obtain⟨A,cp,rfl⟩:=Z6 p1;refine Zau r1 ⟨t.below p2,.inr ⟨{Gh.zero with a1:=A,c1:=cp},by simp[mkR6,Ne.symm o1],?_⟩⟩;rw[Za6,ZK (Ne.symm n1),ZK (Ne.symm n2),ZK (Ne.symm n3),ZK (Ne.symm n4),Zag,upd_ne (Ne.symm n1),upd_ne (Ne.symm n2),upd_ne (Ne.symm n3),upd_ne (Ne.symm n4),p,l2,E];exact⟨⟨(fun h=>by cases h),(fun h=>by cases h),(fun h=>by cases h)⟩,fun _ _=>p1,fun h m=>⟨(j2 p m).1,Zw p2 (j2 p m).2⟩,(fun h=>by cases h),(fun _ h=>by cases h),fun _=>ZP (K E) p2,(fun h=>by cases h)⟩
  ·have p:=aB J;obtain⟨l2,E⟩:=S p;refine Zau (hal1 o I g x) ⟨t.below (ZC _ _),.inr ⟨{Gh.zero with b:=x.heap.size},by simp[mkR6,Ne.symm n1,Ne.symm o2],?_⟩⟩;rw[Za6,ZK n1,ZK (Ne.symm n5),ZK (Ne.symm n6),ZK (Ne.symm n7),Zag,upd_ne n1,upd_ne (Ne.symm n5),upd_ne (Ne.symm n6),upd_ne (Ne.symm n7),p,l2,E];exact⟨⟨(fun h=>by cases h),(fun h=>by cases h),(fun h=>by cases h)⟩,fun _ h=>ZP (j1 p h) (ZC _ _),fun _ _=>⟨t.2.1,ZA _ _ rfl⟩,(fun h=>by cases h),(fun _ h=>by cases h),fun _=>ZP (K E) (ZC _ _),(fun h=>by cases h)⟩
  ·obtain⟨lc,V⟩:=d1 o I f;obtain⟨l2,E⟩:=S J;have d:=j1 J lc;obtain⟨z,s,r1,r2,r3⟩:=hap1 o I g x t d (j2 J V).2;obtain⟨gB,O,rfl⟩:=Z6 r2;have hr:∀r,(Value.slice (g c).a1 n (g c).c1).ownBlock=some r->w.heap.size<=r:=fun r e=>(d.lt r e).1;refine Zau r1 ⟨t.grown (by have:=hw.size;exact this) hv0 r3 (fun r e=>.inl (hr r e)),.inr ⟨{Gh.zero with a1:=gB,c1:=O},by simp[mkR6,Ne.symm n2,Ne.symm n5,n8,Ne.symm o3],?_⟩⟩;rw[Za6,ZK n2,ZK n5,ZK (Ne.symm n8),ZK (Ne.symm n9),Zag,upd_ne n2,upd_ne n5,upd_ne (Ne.symm n8),upd_ne (Ne.symm n9),l2,E];refine⟨⟨fun _=>⟨lc,V⟩,(fun h=>by cases h),(fun h=>by cases h)⟩,(fun h=>by cases h),(fun h=>by cases h),fun _=>r2,(fun _ h=>by cases h),fun _=>Zap (K E) fun r e=>r3.block r ?_ ?_,(fun h=>by cases h)⟩;·exact Zzf (R r e) t.2.1
   ·intro e';have:=hr r e'.symm;have:=R r e;omega
  ·have p:=d2 o I f;have E:=aC J;refine Zau (hal2 o I g x) ⟨t.below (ZC _ _),.inr ⟨{Gh.zero with b:=x.heap.size},by simp[mkR6,Ne.symm n3,Ne.symm n6,Ne.symm o4],?_⟩⟩;rw[Za6,ZK n3,ZK n6,ZK n8,ZK (Ne.symm G),Zag,upd_ne n3,upd_ne n6,upd_ne n8,upd_ne (Ne.symm G),p,E];exact⟨⟨fun _=>k1 p,fun _=>rfl,(fun h=>by cases h)⟩,(fun h=>by cases h),(fun h=>by cases h),fun _=>ZP (j3 p) (ZC _ _),fun _ _=>⟨t.2.1,ZA _ _ rfl⟩,fun _=>ZP (K E) (ZC _ _),(fun h=>by cases h)⟩
  ·have V:=d3 o I f;have p:=k2 V;obtain⟨z,s,r1,r2,r3,r4⟩:=hap2 o I g x t (K J) (j4 J V).2;obtain⟨gB,O,rfl⟩:=Z6 r2;have d:=j3 p;refine Zau r1 ⟨t.grown hw.size hv0 r3 (fun r e=>.inr e),.inr ⟨{Gh.zero with a1:=gB,c1:=O},by simp[mkR6,Ne.symm n4,Ne.symm n7,Ne.symm n9,Ne.symm G,Ne.symm o5],?_⟩⟩;rw[Za6,ZK n4,ZK n7,ZK n9,ZK G,Zag,upd_ne n4,upd_ne n7,upd_ne n9,upd_ne G,p,V];refine⟨⟨fun _=>k1 p,fun _=>rfl,fun _=>rfl⟩,(fun h=>by cases h),(fun h=>by cases h),fun _=>Zap d fun r e=>r3.block r ?_ ?_,(fun h=>by cases h),(fun h=>by cases h),fun _=>⟨r2,?_⟩⟩;·exact(d.lt r e).2
   ·intro e';have:=(d.lt r e).1;have:=R r e'.symm;omega
   ·rcases r4 with h|h;·exact .inl h
    ·refine .inr ⟨_,h,t.2.1,fun e=>?_⟩;have:=(d.lt _ e.symm).2;omega
 ·rintro g x ⟨-,-,-,j3,-,-,N⟩ t aA;exact hend g x t (j3 rfl) (N rfl).1 (N rfl).2
theorem Zpq{f:Operand->Value} {o:Oper} {x:World} (s y:Operand)(t e:TypeId)(i:TypeInfo)(z:Value)(d base b c n:Nat) {A:Option Addr} {l:List Int} (hn:l.length=n)(ho:o.op=.call {callee:=.builtin .append,args:=#[s,y],argTypes:=#[t,t]})(hs:f s=.slice (some ⟨b,0,none⟩) 0 0)(N:f y=.slice A n c)(ht:P.underlying t=some (.slice e))(hi:P.info? e=some i)(hz:i.zero=some z)(p:i.size=1)(I:i.bytes=d)(O:z.cells.size=1)(G:d<=1000)(r:At 1 Zc x A l)(hne:0<l.length)(Z:l.length<=1000)(H:base<=x.heap.size):∃V R,(execOp f o).run P x=.ok (.value V) R/\R.ownsRow base e 1 V n (l.map (Value.int .i64))/\Below x.heap.size x R:=by
 subst hn;obtain⟨a,rfl⟩:∃a,A=some a:=by obtain⟨D,Q,h,-⟩:=r 0 _ (ZxX hne);exact⟨_,h⟩
 have m:∀j u,(l.map (Value.int .i64))[j]?=some u->x.cell? (a.add j)=some u:=fun j u U=>by
  rw[Zx1]at U;obtain⟨y,N,rfl⟩:=ZzC.1 U;obtain⟨D,Q,h,-,Y⟩:=r j y N;cases h;have:=Y 0 _ rfl;have e:Addr.add ⟨D,Q,none⟩ j=⟨D,Q+j,none⟩:=by unfold Addr.add;split<;>simp_all
  rw[e];simpa using this
 have X:l.length*d<=1000*1000:=Zzl Z G;subst I;have K:(l.map (Value.int .i64)).length=l.length*i.size:=by simp[p]
 have S:=run_append_grow (P:=P) (w:=x) t o.type e i z ht hi hz ⟨b,0,none⟩ 0 0 [] (by simp) (by simp) a l.length c (l.map (Value.int .i64)) K m (by omega) (by omega) (growslice_fits (by omega) (by rw[Zzw];omega));simp only[Zzw]at S;have L:=grownCap_ge x l.length 0 e;have J:grownCap x l.length 0 e<=maxLen:=grownCap_le_maxLen x l.length 0 e (by unfold maxLen;omega);have E:Below x.heap.size x (x.drew.alloc (.cells (([]:List Value).toArray++(l.map (Value.int .i64)).toArray++Builtin.zeroCells z.cells (grownCap x l.length 0 e-l.length)) e)):=((ZwJ _ x).drew).alloc (by simp) _;refine⟨_,_,?_,⟨by simp,.inr ⟨x.heap.size,_,_,rfl,H,heap_alloc_new x.drew _,L,J,?_,?_⟩⟩,E⟩;·unfold execOp;simp only[ho,resolve,invoke,builtin,Sem.run_bind,Sem.run_pure,Result.andThen_ok,Zyt,Zyp,Zyr,hs,N,S]
 ·simp only[Array.size_append,ZyT,size_zeroCells,O,Zyf,Zyg,Zzw,Zzn];omega
 ·simp only[Array.toList_append,ZyJ,Zzn];rw[show l.length=(l.map (Value.int .i64)).length by simp];exact List.take_left
theorem ZkW{f:Operand->Value} {o:Oper} {x:World} (s y:Operand)(t e:TypeId)(i:TypeInfo)(I v:Value)(d base n b:Nat)(xs:List Value)(u:Value)(tb:TypeId)(O:o.op=.call {callee:=.builtin .append,args:=#[s,y],argTypes:=#[t,t]})(hs:f s=v)(R:f y=.slice (some ⟨b,0,none⟩) 1 1)(Q:P.underlying t=some (.slice e))(hi:P.info? e=some i)(hz:i.zero=some I)(p:i.size=1)(G:i.bytes=d)(H:I.cells.size=1)(E:d<=1000)(hown:x.ownsRow base e 1 v n xs)(hb:x.heap[b]?=some (.cells #[u] tb (0,0)))(K:u.oneCell'=true)(D:n+1<=1000)(m:base<=x.heap.size):∃r z,(execOp f o).run P x=.ok (.value r) z/\z.ownsRow base e 1 r (n+1) (xs++[u])/\x.grownBy z v.ownBlock/\(r.ownBlock=v.ownBlock∨r.ownBlock=some x.heap.size):=by
 have L:(n+1)*d<=1000*1000:=Zzl D E;obtain⟨g,J,z,S,U,V,X,Y⟩:=run_append_lies (P:=P) x t o.type base e i I 1 d Q hi hz p G H (by decide) v n xs hown ⟨b,0,none⟩ 1 1 [u] (by simp) (fun j r N=>World.news_of_block hb j r (by simpa using N)) (by simpa using K) (by decide) (by unfold maxLen;omega) (by omega) m _ rfl;refine⟨_,z,?_,U,V,?_⟩;·unfold execOp;simp only[O,resolve,invoke,builtin,Sem.run_bind,Sem.run_pure,Result.andThen_ok,Zyt,Zyp,Zyr,hs,R,S]
 ·rcases X with h|h;·exact .inl h.symm
  ·subst h;exact .inr rfl
theorem RowsOwn.row6{w0 w x:World} {base n:Nat} {v:Value} {m p:Option Addr} {s f:Nat} {xs:List IR} {l:List Int} (h:RowsOwn w base v xs)(hb:base<=w.heap.size)(E:Za8 w0 w v x)(D:x.ownsRow w.heap.size 3 1 (.slice p n f) n (l.map (Value.int .i64)))(Y:0<n)(N:x.ownsRow base 31 1 (.slice m (xs.length+1) s) (xs.length+1) ((xs.map fun x=>Value.slice x.A x.l.length x.c)++[.slice p n f]))(J:(Value.slice m (xs.length+1) s).ownBlock=v.ownBlock∨∃r,(Value.slice m (xs.length+1) s).ownBlock=some r/\w.heap.size<=r/\some r≠(Value.slice p n f).ownBlock):RowsOwn x base (.slice m (xs.length+1) s) (xs++[⟨p,f,l⟩]):=by
 have I:l.length=n:=by have:=D.1;simpa using this
 refine⟨?_,fun y d=>?_⟩;·rw[Zyc,Zyn];simpa [I] using N
 ·rcases Zyu.1 d with d|d
  ·obtain⟨X,L⟩:=h.row y d;refine⟨fun k z S=>?_,fun a t=>?_⟩;·obtain⟨b,o,K,i,O⟩:=X k z S;obtain⟨q1,q2,q3⟩:=L _ K;refine⟨b,o,K,Zzf i E.2.1,fun j u R=>?_⟩;rw[<-O j u R];exact World.cell?_of_block (a:=⟨b,o+k*1+j,none⟩) (E.2.2 b i q3)
   ·obtain⟨q1,q2,q3⟩:=L a t;refine⟨q1,Zzf q2 E.2.1,?_⟩;rcases J with e|⟨r,e,Q,-⟩;·rw[e];exact q3
    ·rw[e];intro G;cases G;omega
  ·rw[ZyH]at d;subst d;refine⟨ZaE (n:=n) (c:=f) D,fun a t=>?_⟩;dsimp only at t;subst t;obtain⟨U,V⟩:=D.lt a.block rfl;refine⟨Zzb hb U,V,?_⟩;rcases J with e|⟨r,e,Q,G⟩;·rw[e];intro H;have:=(h.own.lt _ H.symm).2;omega
   ·rw[e];exact fun H=>G H.symm
end
section
variable {P:Program} {n:Nat}
theorem ZkX{l:Nat} {o:Oper} {a:Act} {w:World} {K:Act->World->Prop} {Q:Exit->Act->World->Prop} (p:∀c,o.op≠.defer c)(h:o.wp P a w K Q):o.wpIn (Fence.wide.inRound l) n P a w K Q:=by unfold Oper.wpIn;refine⟨fun _ _=>trivial,?_⟩;rw[Oper.semAt_eq _ _ _ p];unfold Oper.wp at h;generalize (execOp a.eval o).run P w=r at*;cases r with
 |ok nx w'=>
  cases nx<;>simp only[Oper.upon]at h<;>simp only[Oper.uponIn];case value u=>exact h
  case skip=>exact h
  case defer d=>exact h
  case enter f args=>exact⟨fun i=>(by cases i),(callsIn_wide.2 h).inRound l⟩
  case row r args=>refine⟨fun i=>(by cases i),fun c cs _=>?_⟩;obtain⟨v,m,q,s⟩:=h c cs;exact⟨v,m,q,stepsIn_wide.2 s⟩|halt x w'=>cases x<;>simp only[Oper.upon]at h<;>simp only[Oper.uponIn];exact h
theorem Zpr{ops:Array Oper} {l i:Nat} {a:Act} {w:World} {K m:Act->World->Prop} {Q:Exit->Act->World->Prop} (r:∀o∈ops,∀c,o.op≠.defer c)(hL:¬LetsOut Q)(p:∀a w,K a w->m a w)(h:wpOp P ops Q i K a w):wpOpIn (Fence.wide.inRound l) n P ops Q i m a w:=by
 have h:=wpOp_mono p h;unfold wpOp at h;unfold wpOpIn;split;·rename_i d;simpa only[d] using h
 ·rename_i o d;simp only[d]at h;split
  ·rename_i f;rw[if_pos f]at h;rcases h with h|h;·exact ZkX (r o (ZwB d)) h
   ·exact absurd h.2 hL
  ·rename_i f;rw[if_neg f]at h;exact⟨fun _ _=>trivial,h⟩
theorem Zer{ops:Array Oper} {md:Region.Mode} {l:Nat} {Q:Exit->Act->World->Prop} (m:∀o∈ops,∀c,o.op≠.defer c)(hL:¬LetsOut Q):∀(f:Nat)(d:Array Bool)(a:Act)(w:World),wpAny P md ops Q f d a w->wpAnyIn (Fence.wide.inRound l) n P md ops Q f d a w|0,_,_,_,h=>h|f+1,_,_,_,h=>⟨h.1,fun i s=>Zpr m hL (fun p t r=>Zer m hL f _ p t r) (h.2 i s)⟩
theorem Zcx{ops:Array Oper} {l:Nat} {Q:Exit->Act->World->Prop} (hL:¬LetsOut Q):∀(os:List Oper)(a:Act)(w:World),os.all (fun o=>match o.op with|.defer _=>false|_=>true)=true->wpList P ops Q os a w->wpListIn (Fence.wide.inRound l) n P ops Q os a w
 |[],_,_,_,h=>h|o::rest,a,w,hd,h=>by
  simp only[Zxk,ZwL]at hd;have d:∀c,o.op≠.defer c:=fun c p=>by rw[p]at hd;cases hd.1
  unfold wpList at h;unfold wpListIn;split
  ·rename_i f;rw[if_pos f]at h;rcases h with h|h;·exact ZkX d (Oper.wp_mono (fun i r m=>Zcx hL rest i r hd.2 m) h)
   ·exact absurd h.2 hL
  ·rename_i f;rw[if_neg f]at h;exact⟨fun _ _=>trivial,Zcx hL rest _ _ hd.2 h⟩
def Zcy(w0 w:World)(d f h:Nat)(x:World):Prop:=Below w0.heap.size w0 x/\w.heap.size<=x.heap.size/\∀k,k<w.heap.size->k≠d->k≠f->k≠h->x.heap[k]?=w.heap[k]?
theorem Zps{Q:Exit->Act->World->Prop} {a0:Act} {w:World} {l:List Oper} (w0:World)(p q r:Nat)(f i m:Nat)(y4 z4 y5 z5 y6 z6:Obj)(I:Act)(hB:Zay l.toArray=true) (hB':Zay (mixL [p,q,r] (fun _ _=>undef) (fun _=>Gh.zero) 0 l).toArray=true) (hS:Region.noSelect l.toArray=true) (hN:spB l.toArray [p,q,r]=true) (hne:p≠q/\p≠r/\q≠r)(hkd:(match l[p]?,l[q]?,l[r]? with|some o,some o',some o''=>o.dst.isNone&&o'.dst.isNone&&o''.dst.isNone|_,_,_=>false)=true)(hw:Below w0.heap.size w0 w)(hb:w0.heap.size<=f/\w0.heap.size<=i/\w0.heap.size<=m)(hbn:f≠i/\f≠m/\i≠m)(h4:w.heap[f]?=some y4)(h5:w.heap[i]?=some y5)(h6:w.heap[m]?=some y6)(hs4:∀o,l[p]?=some o->∀x,Zcy w0 w f i m x->x.heap[f]?=some y4->∃d,(execOp I.eval o).run P x=.ok .skip d/\OnlyB f x d/\d.heap[f]?=some z4)(hs5:∀o,l[q]?=some o->∀x,Zcy w0 w f i m x->x.heap[i]?=some y5->∃d,(execOp I.eval o).run P x=.ok .skip d/\OnlyB i x d/\d.heap[i]?=some z5)(hs6:∀o,l[r]?=some o->∀x,Zcy w0 w f i m x->x.heap[m]?=some y6->∃d,(execOp I.eval o).run P x=.ok .skip d/\OnlyB m x d/\d.heap[m]?=some z6)(hq:∀u,Zcy w0 w f i m u->(∀(x:Grew u)(b o:Nat),b<u.heap.size->x.val.cell? ⟨b,o,none⟩=u.cell? ⟨b,o,none⟩)->wpQuiet P (mixL [p,q,r] (fun _ _=>undef) (fun _=>Gh.zero) 0 l).toArray (fun w'=>∃x:Grew u,w'=x.val) (fun a'=>a'=I) (mixL [p,q,r] (fun _ _=>undef) (fun _=>Gh.zero) 0 l) a0)(hend:∀x,Zcy w0 w f i m x->x.heap[f]?=some z4->x.heap[i]?=some z5->x.heap[m]?=some z6->Q .normal I x):wpAny P .any l.toArray Q l.toArray.size (Array.replicate l.toArray.size false) a0 {w with drawn:=w.drawn+1}:=by
 obtain⟨n1,n2,n3⟩:=hne;obtain⟨e1,e2,e3⟩:=hbn;have O:∀j∈[p,q,r],∀o,l[j]?=some o->o.dst=none:=by cases K:l[p]? with|none=>rw[K]at hkd;simp at hkd|some o1=>cases V:l[q]? with|none=>rw[K,V]at hkd;simp at hkd|some o2=>cases Z:l[r]? with
    |none=>rw[K,V,Z]at hkd;simp at hkd|some o3=>
     rw[K,V,Z]at hkd;simp only[ZwL,Option.isNone_iff_eq_none]at hkd;intro j J o t;simp only[Zyx,ZyN,or_false]at J;rcases J with rfl|rfl|rfl;·rw[K]at t;cases t;exact hkd.1.1
     ·rw[V]at t;cases t;exact hkd.1.2
     ·rw[Z]at t;cases t;exact hkd.2
 have H:∀{x d:World} {b:Nat},Zcy w0 w f i m x->OnlyB b x d->(b=f∨b=i∨b=m)->Zcy w0 w f i m d:=fun {x d b} h t N=>⟨h.1.trans (t.below _ (by rcases N with rfl|rfl|rfl;exact hb.1;exact hb.2.1;exact hb.2.2)),Zzb h.2.1 (t.below 0 (Zzx _)).size,fun k Y y z D=>(t.other k (by rcases N with rfl|rfl|rfl<;>assumption)).trans (h.2.2 k Y y z D)⟩;have aC:∀{x d:World},Zcy w0 w f i m x->Below x.heap.size x d->Zcy w0 w f i m d:=fun {x d} h s=>⟨via h.1 s,Zzb h.2.1 s.size,fun k Y y z D=>(s.block k (Zzf Y h.2.1)).trans (h.2.2 k Y y z D)⟩;have R:∀g g',mixL [p,q,r] (fun _ _=>undef) g 0 l=mixL [p,q,r] (fun _ _=>undef) g' 0 l:=fun g g'=>by apply ZxI;intro j;have y:=ZcL [p,q,r] (fun _ _=>undef) g l 0 j;have z:=ZcL [p,q,r] (fun _ _=>undef) g' l 0 j;rw[y,z]
 refine ZdO w0 (Zcy w0 w f i m) [p,q,r] (fun _ _=>undef) (fun L g x=>x.heap[f]?=some (if L p then z4 else y4)/\x.heap[i]?=some (if L q then z5 else y5)/\x.heap[m]?=some (if L r then z6 else y6)) (fun _=>I) hB (fun g=>by rw[R g (fun _=>Gh.zero)];exact hB') hS hN
  ⟨hw,Zza _,fun _ _ _ _ _=>rfl⟩ (fun x d h hb=>aC h hb) (fun x h=>h.1) ?_ ?_ (fun g u hu aB _ _=>by rw[R g (fun _=>Gh.zero)];exact hq u hu aB) (fun _ _ _ _=>rfl) ?_ ?_;·intro L h;rw[h p (by simp),h q (by simp),h r (by simp)];exact⟨h4,h5,h6⟩
 ·rintro L L' g x d h ⟨y,z,D⟩ s;rw[h p (by simp),h q (by simp),h r (by simp)];exact⟨Zw s y,Zw s z,Zw s D⟩
 ·intro j J o t L g x ⟨y,z,D⟩ G aA hL X aD;have hd:=O j J o t;simp only[Zyx,ZyN,or_false]at J;rcases J with rfl|rfl|rfl;·rw[hL]at y;obtain⟨d,S,E,U⟩:=hs4 o t x G y;refine Zc7 S ⟨H G E (.inl rfl),.inl ⟨hd,?_⟩⟩;rw[Za6,ZK (Ne.symm n1),ZK (Ne.symm n2)];exact⟨U,E.keep (Ne.symm e1) z,E.keep (Ne.symm e2) D⟩
  ·rw[hL]at z;obtain⟨d,S,E,U⟩:=hs5 o t x G z;refine Zc7 S ⟨H G E (.inr (.inl rfl)),.inl ⟨hd,?_⟩⟩;rw[Za6,ZK n1,ZK (Ne.symm n3)];exact⟨E.keep e1 y,U,E.keep (Ne.symm e3) D⟩
  ·rw[hL]at D;obtain⟨d,S,E,U⟩:=hs6 o t x G D;refine Zc7 S ⟨H G E (.inr (.inr rfl)),.inl ⟨hd,?_⟩⟩;rw[Za6,ZK n2,ZK n3];exact⟨E.keep e2 y,E.keep e3 z,U⟩
 ·rintro g x ⟨y,z,D⟩ G aA;simp only[if_true]at y z D;exact hend x G y z D
end
section
variable {P:Program}
def Zfd(o:Oper):List Nat:=(o.after.toList.filter (Region.binds .any)).map (·.on)
def ZkY(l:List Oper)(S:List Nat):List Nat:=S.foldl (fun d i=>match l[i]? with|some o=>(Zfd o).foldl (fun a e=>if a.contains e then a else a++[e]) d|none=>d) S
def Zga(l:List Oper):Nat->List Nat->List Nat|0,S=>S|n+1,S=>Zga l n (ZkY l S)
def ZkZ(l:List Oper)(sp:List Nat)(d:Nat->List Nat):Bool:=sp.all fun j=>match l[j]? with|some o=>(d j).all fun i=>(Zga l l.length (Zfd o)).contains i|none=>false
theorem Zic{o:Oper} {L:Nat->Bool} (h:∀e∈o.after,Region.binds .any e=true->L e.on=true):∀i∈Zfd o,L i=true:=by intro i p;obtain⟨e,m,rfl⟩:=ZyC.1 p;obtain⟨d,f⟩:=ZyA.1 m;exact h e (by simpa using d) f
theorem Zpt{l:List Oper} {L:Nat->Bool} (y:∀(i:Nat)(o:Oper),l[i]?=some o->L i=true->∀e∈o.after,Region.binds .any e=true->L e.on=true) {S:List Nat} (hS:∀i∈S,L i=true):∀i∈ZkY l S,L i=true:=by
 have p:∀(es d:List Nat),(∀i∈d,L i=true)->(∀i∈es,L i=true)->∀i∈es.foldl (fun a e=>if a.contains e then a else a++[e]) d,L i=true:=by intro es;induction es with|nil=>intro d h _ i m;exact h i m|cons e es ih=>
   intro d h s i m;refine ih _ (fun j f=>?_) (fun j f=>s j (by simp[f])) i m;dsimp only at f;split at f;·exact h j f
   ·rcases Zyu.1 f with f|f;·exact h j f
    ·rw[ZyH]at f;subst f;exact s _ (by simp)
 have r:∀(T d:List Nat),(∀i∈T,L i=true)->(∀i∈d,L i=true)->∀i∈T.foldl (fun d i=>match l[i]? with|some o=>(Zfd o).foldl (fun a e=>if a.contains e then a else a++[e]) d|none=>d) d,L i=true:=by intro T;induction T with
  |nil=>intro d _ h i m;exact h i m|cons t T ih=>
   intro d u h i m;refine ih _ (fun j f=>u j (by simp[f])) (fun j f=>?_) i m;dsimp only at f;split at f;·rename_i o z;exact p _ _ h (Zic (y t o z (u t (by simp)))) j f
   ·exact h j f
 exact r S S hS hS
theorem Zid{l:List Oper} {L:Nat->Bool} (d:∀(i:Nat)(o:Oper),l[i]?=some o->L i=true->∀e∈o.after,Region.binds .any e=true->L e.on=true):∀(n:Nat) {S:List Nat},(∀i∈S,L i=true)->∀i∈Zga l n S,L i=true|0,_,hS=>hS|n+1,_,hS=>Zid d n (Zpt d hS)
theorem Zk0{l:List Oper} {sp:List Nat} {d:Nat->List Nat} (h:ZkZ l sp d=true) {L:Nat->Bool} (p:∀(i:Nat)(o:Oper),l[i]?=some o->L i=true->∀e∈o.after,Region.binds .any e=true->L e.on=true) {j:Nat} (s:j∈sp) {o:Oper} (t:l[j]?=some o)(ha:∀e∈o.after,Region.binds .any e=true->L e.on=true):∀i∈d j,L i=true:=by have f:=Zxl.1 h j s;rw[t]at f;intro i r;have m:=Zxl.1 f i r;exact Zid p _ (Zic ha) i (by simpa using m)
theorem Zpu{K i:Value->World->Prop} {r:Result Next} (h:Zci P K r)(d:∀v x,K v x->i v x):Zci P i r:=by cases r with
 |ok n x=>
  cases n<;>simp only[Zci]at h |-;case value v=>exact d _ _ h
  case skip=>exact d _ _ h
  case enter f args=>exact h.mono fun e p ⟨v,m,o⟩=>⟨v,m,d _ _ o⟩|halt hh x=>exact h
def Za9(d:List Nat)(f:Nat->Nat)(L:Nat->Bool)(j:Nat):Bool:=d.any fun k=>f k==j&&L k
theorem Zes{Q:Exit->Act->World->Prop} {a0:Act} {w:World} {l:List Oper} (w0:World)(C:World->Prop)(r m:List Nat)(y:Nat->Nat)(N:Nat->List Nat)(mk:Nat->Gh->Value)(R:Nat->Bool->(Nat->Gh)->World->Prop)(Own:Nat->Gh->Nat->Prop)(af:(Nat->Gh)->Act)(hB:Zay l.toArray=true)(hB':∀g,Zay (mixL (r++m) mk g 0 l).toArray=true)(hS:Region.noSelect l.toArray=true)(hN:spB l.toArray (r++m)=true)(hnd:(r++m).Nodup)(htg:∀k∈m,y k∈r/\y k∈N k)(hinj:∀k∈m,∀k'∈m,y k=y k'->k=k')(hD:ZkZ l (r++m) N=true)(hkd:m.all (fun k=>match l[k]? with|some o=>o.dst.isNone|none=>false)=true)(hC0:C w)(hCs:∀x D,C x->Below x.heap.size x D->C D)(hCw:∀x,C x->Below w0.heap.size w0 x)(hCz:∀x,C x->w.heap.size<=x.heap.size)(hCo:∀x D b,C x->OnlyB b x D->w.heap.size<=b->C D)(hRb:∀j f g x D,R j f g x->Below x.heap.size x D->R j f g D)(hRg:∀i f g j h x,j≠i->j∉N i->(f=true->∀k∈m,y k=i->j∉N k)->R i f g x->R i f (upd g j h) x)(hRo:∀i f g b x D,C x->R i f g x->OnlyB b x D->w.heap.size<=b->¬Own i (g i) b->R i f g D)(hmake:∀j∈r,∀o,l[j]?=some o->∀(g:Nat->Gh)(x:World),C x->(∀i∈N j,i∈r->∃f,R i f g x/\∀b,Own i (g i) b->w.heap.size<=b/\b<x.heap.size)->Zci P (fun v D=>∃h,v=mk j h/\R j false (upd g j h) D/\Below x.heap.size x D/\∀b,Own j h b->x.heap.size<=b/\b<D.heap.size) ((execOp (af g).eval o).run P x))(hstore:∀k∈m,∀o,l[k]?=some o->∀(g:Nat->Gh)(x:World),C x->R (y k) false g x->(∀i∈N k,i∈r->i≠y k->∃f,R i f g x)->∃D b,(execOp (af g).eval o).run P x=.ok .skip D/\Own (y k) (g (y k)) b/\OnlyB b x D/\R (y k) true g D)(hq:∀g u,C u->(∀(x:Grew u)(b o:Nat),b<u.heap.size->x.val.cell? ⟨b,o,none⟩=u.cell? ⟨b,o,none⟩)->Hid (∀x:Grew u,Below w0.heap.size w0 x.val)->Hid (∀x:Grew u,C x.val)->wpQuiet P (mixL (r++m) mk g 0 l).toArray (fun w'=>∃x:Grew u,w'=x.val) (fun a'=>a'=af g) (mixL (r++m) mk g 0 l) a0)(hind:∀j∈r++m,∀g h,ZaN (ZaS l.toArray j 0 l []) 0 (af g).tmps.toList=ZaN (ZaS l.toArray j 0 l []) 0 (af (upd g j h)).tmps.toList)(hend:∀(g:Nat->Gh)(x:World),C x->(∀j∈r,R j (m.any fun k=>y k==j) g x/\(∀b,Own j (g j) b->w.heap.size<=b/\b<x.heap.size)/\∀i∈r,i≠j->∀b,Own j (g j) b->¬Own i (g i) b)->Q .normal (af g) x):wpAny P .any l.toArray Q l.toArray.size (Array.replicate l.toArray.size false) a0 {w with drawn:=w.drawn+1}:=by
 have aN:∀k∈m,∀o,l[k]?=some o->o.dst=none:=fun k hk o ho=>by have:=Zxl.1 hkd k hk;rw[ho]at this;simpa using this
 have aC:∀j∈r,j∉m:=fun j X J=>by obtain⟨-,-,h⟩:=List.nodup_append.1 hnd;exact h j X j J rfl
 have aK:∀(L:Nat->Bool)(j k:Nat),j∈r->Za9 m y (Zby L j) k=Za9 m y L k:=fun L j k X=>by
  unfold Za9;rw[ZwO,Zxo,Zxo];constructor;·rintro⟨s,J,h⟩;have:s≠j:=fun e=>aC j X (e▸J);rw[ZK this]at h;exact⟨s,J,h⟩
  ·rintro⟨s,J,h⟩;have:s≠j:=fun e=>aC j X (e▸J);exact⟨s,J,by rw[ZK this];exact h⟩
 refine ZdO w0 C (r++m) mk (fun L g x=>∀j∈r,L j=true->R j (Za9 m y L j) g x/\(∀b,Own j (g j) b->w.heap.size<=b/\b<x.heap.size)/\∀i∈r,i≠j->L i=true->∀b,Own j (g j) b->¬Own i (g i) b) af hB hB' hS hN hC0 hCs hCw ?_ ?_ hq hind ?_ ?_;·intro L h j X hL;rw[h j (Zyv _ X)]at hL;cases hL
 ·intro L L' g x D h hJ hb j X hL;have hf:Za9 m y L' j=Za9 m y L j:=by
   unfold Za9;rw[ZwO,Zxo,Zxo];constructor;·rintro⟨s,J,K⟩;rw[h s (Zyw _ J)]at K;exact⟨s,J,K⟩
   ·rintro⟨s,J,K⟩;exact⟨s,J,by rw[h s (Zyw _ J)];exact K⟩
  rw[h j (Zyv _ X)]at hL;obtain⟨U,V,h3⟩:=hJ j X hL;rw[hf];exact⟨hRb _ _ _ _ _ U hb,fun b p=>⟨(V b p).1,Zzf (V b p).2 hb.size⟩,fun i H z E=>h3 i H z (by rw[<-h i (Zyv _ H)];exact E)⟩
 ·intro j X o ho L g x hJ hC aR hL aD aA;have aH:=Zk0 hD aA X ho aD;have aG:∀i∈r++m,L i=true->∀d∈N i,L d=true:=fun i H E d hd=>by
   have:∃o,l[i]?=some o:=by have U:=Zxl.1 hD i H;cases V:l[i]? with
    |none=>rw[V]at U;cases U|some o=>exact⟨o,rfl⟩
   obtain⟨o',aE⟩:=this;exact Zk0 hD aA H aE (aA i o' aE E) d hd
  rcases Zyu.1 X with aO|I
  ·have aV:=hmake j aO o ho g x hC fun i H S=>by obtain⟨U,V,-⟩:=hJ i S (aH i H);exact⟨_,U,V⟩
   refine Zpu aV ?_;rintro v D ⟨h,rfl,hR,hb,hO⟩;refine⟨hCs _ _ hC hb,.inr ⟨h,rfl,fun i H E=>?_⟩⟩;rw[aK L j i aO];by_cases O:i=j
   ·subst O;have aI:Za9 m y L i=false:=by unfold Za9;rw[Zxn];intro k hk Y;simp only[ZwL,beq_iff_eq]at Y;have:=aG k (Zyw _ hk) Y.2 (y k) (htg k hk).2;rw[Y.1,hL]at this;cases this
    rw[aI];refine⟨hR,fun b p=>?_,fun Z G z t b p=>?_⟩;·rw[Zag]at p;have:=hO b p;exact⟨Zzb (hCz x hC) this.1,this.2⟩
    ·rw[Zag]at p;rw[upd_ne z];intro aF;rw[ZK z]at t;have U:=(hO b p).1;have V:=((hJ Z G t).2.1 b aF).2;omega
   ·rw[ZK O]at E;obtain⟨U,V,h3⟩:=hJ i H E;refine⟨hRg i _ g j h D (Ne.symm O) (fun hd=>?_) (fun hf k hk aU hd=>?_) (hRb _ _ _ _ _ U hb),fun b p=>?_,fun Z G z t b p=>?_⟩;·have:=aG i (Zyv _ H) E j hd;rw[hL]at this;cases this
    ·have aS:L k=true:=by unfold Za9 at hf;obtain⟨k',aT,Y⟩:=Zxo.1 hf;simp only[ZwL,beq_iff_eq]at Y;have:=hinj k' aT k hk (Y.1.trans aU.symm);rw[<-this];exact Y.2
     have:=aG k (Zyw _ hk) aS j hd;rw[hL]at this;cases this
    ·rw[upd_ne O]at p;have:=V b p;exact⟨this.1,Zzf this.2 hb.size⟩
    ·rw[upd_ne O]at p;by_cases aB:Z=j;·subst aB;rw[Zag];intro aF;have U:=(hO b aF).1;have aX:=(V b p).2;omega
     ·rw[upd_ne aB];rw[ZK aB]at t;exact h3 Z G z t b p
  ·obtain⟨aQ,aW⟩:=htg j I;have aL:=aH _ aW;obtain⟨m1,m2,m3⟩:=hJ _ aQ aL;have aI:Za9 m y L (y j)=false:=by unfold Za9;rw[Zxn];intro k hk Y;simp only[ZwL,beq_iff_eq]at Y;have:=hinj k hk j I Y.1;rw[this,hL]at Y;cases Y.2
   rw[aI]at m1;obtain⟨D,b,r1,r2,r3,r4⟩:=hstore j I o ho g x hC m1 fun i H S z=>⟨_,(hJ i S (aH i H)).1⟩;have aM:=m2 b r2;have aP:=(r3.below 0 (Zzx _)).size;refine Zc7 r1 ⟨hCo _ _ _ hC r3 aM.1,.inl ⟨aN j I o ho,fun i H E=>?_⟩⟩;have O:i≠j:=fun e=>aC i H (e▸I);rw[ZK O]at E;by_cases S:i=y j
   ·subst S;have aJ:Za9 m y (Zby L j) (y j)=true:=by unfold Za9;rw[Zxo];exact⟨j,I,by rw[Za6];simp⟩
    rw[aJ];refine⟨r4,fun b' p=>?_,fun Z G z t=>?_⟩;·have:=m2 b' p;exact⟨this.1,Zzf this.2 aP⟩
    ·rw[ZK (show Z≠j from fun e=>aC Z G (e▸I))]at t;exact m3 Z G z t
   ·have aJ:Za9 m y (Zby L j) i=Za9 m y L i:=by
     unfold Za9;rw[ZwO,Zxo,Zxo];constructor;·rintro⟨s,J,K⟩;simp only[ZwL,beq_iff_eq]at K;have:s≠j:=fun e=>S (by rw[<-K.1,e]);rw[ZK this]at K;exact⟨s,J,by simp[K.1,K.2]⟩
     ·rintro⟨s,J,K⟩;simp only[ZwL,beq_iff_eq]at K;have:s≠j:=fun e=>by rw[e,hL]at K;cases K.2
      exact⟨s,J,by rw[ZK this];simp[K.1,K.2]⟩
    rw[aJ];obtain⟨U,V,h3⟩:=hJ i H E;refine⟨hRo _ _ _ b _ _ hC U r3 aM.1 (fun aE=>h3 (y j) aQ (Ne.symm S) aL b aE r2),fun b' p=>?_,fun Z G z t=>?_⟩;·have:=V b' p;exact⟨this.1,Zzf this.2 aP⟩
    ·rw[ZK (show Z≠j from fun e=>aC Z G (e▸I))]at t;exact h3 Z G z t
 ·intro g x hJ hC aR;refine hend g x hC fun j X=>?_;obtain⟨U,V,h3⟩:=hJ j X rfl;refine⟨?_,V,fun i H z=>h3 i H z rfl⟩;have:Za9 m y (fun _=>true) j=m.any fun k=>y k==j:=by simp[Za9]
  rw[<-this];exact U
end
section
variable {P:Program}
theorem Zie {Q : Exit -> Act -> World -> Prop} {a0 : Act} {w : World} {l : List Oper} (n : Nat) (J : Oper) (hn : l.length = n + 1) (hz : l[n]? = some J)
    (hB : Zay (l.take n).toArray = true) (hG : l.all (fun o => o.guard.isNone) = true) (hA : (List.range n).all (fun i => J.after.any fun e => Region.binds .any e && e.on == i) = true) (hE : J.after.all (fun e => !Region.binds .any e || decide (e.on < n)) = true)
    (h : wpAny P .any (l.take n).toArray (fun e a x => match e with | .normal => J.wp P a x (fun a' z => Q .normal a' z) Q | e => Q e a x) (l.take n).toArray.size (Array.replicate (l.take n).toArray.size false) a0 { w with drawn := w.drawn + 1 }) :
    wpAny P .any l.toArray Q l.toArray.size (Array.replicate l.toArray.size false) a0 { w with drawn := w.drawn + 1 } := by
  have H := Zej hB
  have aO : (l.take n).length = n := by simp; omega
  have aA : ∀ (i : Nat) (o : Oper), l[i]? = some o -> o.guard = none := fun i o u => by
    have := Zxl.1 hG o (ZyD u)
    simpa using this
  have I : ∀ i, i < n -> (l.take n).toArray[i]? = l.toArray[i]? := fun i E => by simp [Zx8 E]
  have X : ∀ i, n <= i -> (l.take n).toArray[i]? = none := fun i E => by simp [ZxY (show (l.take n).length <= i by omega)]
  have p : ∀ (m : Array Bool) (b d : Bool) (i : Nat), m.size = n -> i < n -> (m.push b).getD i d = m.getD i d := fun m b d i s E => by
    rw [Zwh, Zwh, Zwr (by omega)]
    simp [Zwk (show i < m.size by omega)]
  have S : ∀ (m : Array Bool) (b d : Bool), m.size = n -> (m.push b).getD n d = b := fun m b d s => by
    rw [Zwh, <- s]
    simp
  have aG : ∀ (m : Array Bool) (b : Bool) (i : Nat), m.size = n -> i < n -> (i ∈ Region.ready .any l.toArray (m.push b) ↔ i ∈ Region.ready .any (l.take n).toArray m) := fun m b i s E => by
    rw [mem_ready, mem_ready, p _ _ _ _ s E, I i E]
    constructor
    · rintro ⟨D, o, u, h2⟩
      refine ⟨D, o, u, fun e N L => ?_⟩
      have := H.after i o e ((I i E).trans u) N L
      rw [<- p m b false e.on s (by omega)]
      exact h2 e N L
    · rintro ⟨D, o, u, h2⟩
      refine ⟨D, o, u, fun e N L => ?_⟩
      have := H.after i o e ((I i E).trans u) N L
      rw [p m b false e.on s (by omega)]
      exact h2 e N L
  have aH : ∀ (f : Nat) (m : Array Bool) (a : Act) (x : World), m.size = n -> wpAny P .any (l.take n).toArray (fun e a x => match e with | .normal => J.wp P a x (fun a' z => Q .normal a' z) Q | e => Q e a x) f m a x -> wpAny P .any l.toArray Q (f + 1) (m.push false) a x := by
    have Z : ∀ (f : Nat) (m : Array Bool) (a : Act) (x : World), m.size = n -> (∀ i, i < n -> m.getD i true = true) -> J.wp P a x (fun a' z => Q .normal a' z) Q -> wpAny P .any l.toArray Q (f + 1) (m.push false) a x := by
      intro f m a x s hu hw
      have aE : n ∈ Region.ready .any l.toArray (m.push false) := by
        rw [mem_ready]
        refine ⟨S _ _ _ s, J, by simpa using hz, fun e N L => ?_⟩
        have D := Zv8.1 hE e N
        rw [L] at D
        simp only [Bool.not_true, ZwQ, decide_eq_true_eq] at D
        rw [p _ _ _ _ s D]
        have := hu e.on D
        rw [Zwh, Zwk (by omega)] at this |-
        exact this
      refine ⟨fun h0 => (by rw [h0] at aE; cases aE), fun i E => ?_⟩
      have t : i = n := by
        obtain ⟨D, o, u, -⟩ := mem_ready.1 E
        have aC : i < l.length := by simpa using Zaz u
        rcases Zzg i n with h | h
        · rw [p _ _ _ _ s h, hu i h] at D
          cases D
        · omega
      subst t
      have R : (m.push false).setIfInBounds i true = m.push true := by
        apply Zwe
        intro j
        rw [Zwt, Zwq, Zwq]
        simp only [ZwF, s]
        by_cases h : i = j
        · subst h; simp [s]
        · simp [h, s, Ne.symm h]
      have aI : wpAny P .any l.toArray Q f (m.push true) = fun a' z => wpAny P .any l.toArray Q f (m.push true) a' z := rfl
      have G : Region.ready .any l.toArray (m.push true) = [] := by
        rw [ZxD]
        intro j U
        obtain ⟨D, o, u, -⟩ := mem_ready.1 U
        have aC : j < l.length := by simpa using Zaz u
        rcases Zzg j i with h | h
        · rw [p _ _ _ _ s h, hu j h] at D
          cases D
        · have : j = i := by omega
          subst this
          rw [S _ _ _ s] at D
          cases D
      have hK : ∀ a' z, Q .normal a' z -> wpAny P .any l.toArray Q f (m.push true) a' z := fun a' z h => by
        cases f with
        | zero => exact ⟨G, h⟩
        | succ f => exact ⟨fun _ => h, fun j U => by rw [G] at U; cases U⟩
      unfold wpOp
      have aM : l.toArray[i]? = some J := by simpa using hz
      simp only [aM]
      have aL : Region.wanted J (yielded l.toArray a.tmps) = true := by unfold Region.wanted; rw [aA i J hz]
      rw [if_pos aL, R]
      exact .inl (Oper.wp_mono hK hw)
    intro f
    induction f with
    | zero =>
      rintro m a x s ⟨hr, hq⟩
      exact Z 0 m a x s (fun i E => Zem H (by simp [s]; omega) hr i (by simp; omega)) hq
    | succ f ih =>
      rintro m a x s ⟨hr, hq⟩
      by_cases G : Region.ready .any (l.take n).toArray m = []
      · exact Z (f + 1) m a x s (fun i E => Zem H (by simp [s]; omega) G i (by simp; omega)) (hr G)
      · have aJ : ∀ i, i ∈ Region.ready .any l.toArray (m.push false) -> i < n := by
          intro i E
          obtain ⟨D, o, u, h2⟩ := mem_ready.1 E
          have aC : i < l.length := by simpa using Zaz u
          rcases Zzg i n with h | h
          · exact h
          · have t : i = n := by omega
            subst t
            exfalso
            obtain ⟨j, U⟩ := ZxG _ G
            obtain ⟨h3, o3, O, -⟩ := mem_ready.1 U
            have V : j < i := by
              rcases Zzg j i with h | h
              · exact h
              · rw [X j h] at O; cases O
            have aN : o = J := by
              rw [show l.toArray[i]? = l[i]? by simp, hz] at u
              exact (ZzE u).symm
            subst aN
            have h4 := Zxl.1 hA j (ZyF.2 V)
            obtain ⟨e, N, L⟩ := Array.any_eq_true'.1 h4
            simp only [ZwL, beq_iff_eq] at L
            have h5 := h2 e N L.1
            rw [L.2, p _ _ _ _ s V] at h5
            rw [Zwh, Zwk (by omega)] at h3 h5
            simp only [ZzA] at h3 h5
            rw [h3] at h5
            cases h5
        refine ⟨fun h0 => ?_, fun i E => ?_⟩
        · exfalso
          obtain ⟨j, U⟩ := ZxG _ G
          have V : j < n := by
            obtain ⟨h3, o3, O, -⟩ := mem_ready.1 U
            rcases Zzg j n with h | h
            · exact h
            · rw [X j h] at O; cases O
          have := (aG m false j s V).2 U
          rw [h0] at this
          cases this
        · have t := aJ i E
          have aB := (aG m false i s t).1 E
          have K := hq i aB
          obtain ⟨-, o, u, -⟩ := mem_ready.1 aB
          have aD : l.toArray[i]? = some o := (I i t).symm.trans u
          have hg := aA i o (by simpa using aD)
          unfold wpOp at K |-
          simp only [u] at K
          simp only [aD]
          have aF : ∀ y, Region.wanted o y = true := fun y => by unfold Region.wanted; rw [hg]
          rw [if_pos (aF _)] at K
          rw [if_pos (aF _)]
          have R : (m.push false).setIfInBounds i true = (m.setIfInBounds i true).push false := by
            apply Zwe
            intro j
            rw [Zwt, Zwq, Zwq, Zwt]
            simp only [ZwF, ZwG, s]
            by_cases h : i = j
            · subst h; simp [s, t, Nat.lt_succ_of_lt t, Nat.ne_of_lt t]
            · simp [h]
          rw [R]
          have Y : ∀ a' z, wpAny P .any (l.take n).toArray (fun e a x => match e with | .normal => J.wp P a x (fun a' z => Q .normal a' z) Q | e => Q e a x) f (m.setIfInBounds i true) a' z -> wpAny P .any l.toArray Q (f + 1) ((m.setIfInBounds i true).push false) a' z := fun a' z h => ih _ a' z (by simp [s]) h
          rcases K with K | ⟨K, h7⟩
          · left
            refine Oper.wp_mono Y ?_
            unfold Oper.wp at K |-
            generalize (execOp a.eval o).run P x = r at *
            cases r with
            | ok nx w' =>
              cases nx with
              | enter f' args => exact (show Calls P f' args w' _ from K).mono fun e aP N => by cases e <;> exact N
              | _ => exact K
            | halt v w' => cases v <;> exact K
          · right
            exact ⟨K, h7⟩
  have aK : (Array.replicate (l.take n).toArray.size false).push false = Array.replicate l.toArray.size false := by
    rw [<- ZwD]
    congr 1
    simp
    omega
  have := aH _ _ _ _ (by simp; omega) h
  rw [aK] at this
  have e : (l.take n).toArray.size + 1 = l.toArray.size := by simp; omega
  rwa [e] at this
theorem Zgb{K:Act->World->Prop} {Q:Exit->Act->World->Prop} {o:Oper} {a:Act} {w:World} (v:Value)(h:(execOp a.eval o).run P w=.ok (.value v) w)(d:K (a.put o.dst v) w):o.wp P a w K Q:=by unfold Oper.wp;rw[h];exact d
theorem Zpv{K:Act->World->Prop} {Q:Exit->Act->World->Prop} {o:Oper} {a:Act} {w:World} (p q:Operand)(t:TypeId)(s:o.op=.store t p q)(b:Nat)(vs cs:List Value)(T:TypeId)(hp:a.eval p=.pointer (some ⟨b,0,none⟩))(hq:a.eval q=.agg vs.toArray)(d:(sizeOf t).run P w=.ok vs.length w)(hb:w.heap[b]?=some (.cells cs.toArray T (0,0)))(r:cs.length=vs.length)(m:∀u∈vs,u.oneCell'=true)(h:∀w',w'.heap[b]?=some (.cells vs.toArray T (0,0))->w.grownBy w' (some b)->w'.heap.size=w.heap.size->K (a.put o.dst undef) w'):o.wp P a w K Q:=by
 obtain⟨f,y,z,D,E⟩:=Zh2 (P:=P) b T vs 0 cs w hb (by omega) m;unfold Oper.wp execOp;have i:(storeVar t ⟨b,0,none⟩ (.agg vs.toArray)).run P w=.ok () f:=by unfold storeVar;simp only[Sem.run_bind,d,Result.andThen_ok,Value.cells,ZyT,ne_eq,not_true_eq_false,if_false];exact y
 simp only[s,Instr.storeAt,Instr.sureAddr,hp,hq,Sem.run_bind,Sem.run_pure,Result.andThen_ok,i];refine h f ?_ D E;rw[z];congr 2;apply congrArg;simp[r]
end
end Go.Proofs
namespace Go.Proofs
theorem Zif:∀(n:Nat)(l:List Int),l.length<=n->dotL (List.replicate n 1) l=l.sum|n,[],_=>by cases n<;>simp[List.replicate,dotL]|0,_::_,h=>by simp at h|n+1,x::l,h=>by simp only[ZyQ,dotL,ZyU];rw[Zif n l (by simpa using h)];omega
theorem Zgc(n i k:Nat)(d:k<n):(ZaA n i).getD k 0=if k=i then 1 else 0:=by simp[ZaA,ZxS,Zx3 d]
theorem Zpw(m:List Int)(i:Nat):wsum m (fun k=>if k=i then 1 else 0)=m.getD i 0:=by induction m generalizing i with
 |nil=>simp[wsum]|cons x m ih=>cases i with
  |zero=>
   have:wsum m (fun k=>if k+1=0 then (1:Int)else 0)=0:=by rw[show (fun k:Nat=>if k+1=0 then (1:Int)else 0)=fun _=>0 by funext k;simp];exact Zok m
   simp only[wsum,this];simp|succ i=>have:=ih i;simp only[wsum];rw[show (fun k:Nat=>if k+1=i+1 then (1:Int)else 0)=fun k=>if k=i then 1 else 0 by funext k;simp];rw[this];simp
theorem Zk1{n i:Nat} {l:List Int} (h:l.length<=n):dotL (ZaA n i) l=l.getD i 0:=by rw[Zka _ _ (by simp[ZaA];exact h),<-Zpw l i];apply Zol;intro k x d _;exact Zgc n i k (Zzf (Zx0.1 d).1 h)
structure MixOf (np:Nat)(es:List Ex)(z t:List Nat)(m:List Int)(d:Int):Prop where
 len:m.length=np
 den:0<d
 nn:∀x∈m,0<=x
 sum:m.sum=d
 zero:∀i∈z,m.getD i 0=0
 per:∀x∈es,dotL x.1 m<=x.2*d
 tight:∀i∈t,∀x,es[i]?=some x->dotL x.1 m=x.2*d
theorem Zk2(g:Int):∀m:List Int,(m.map (g*·)).sum=g*m.sum|[]=>by simp|x::m=>by simp only[Zyp,ZyU];rw[Zk2 g m];grind
theorem Zpx(g:Int)(m:List Int)(i:Nat):(m.map (g*·)).getD i 0=g*m.getD i 0:=by simp only[ZxS,Zx1];cases m[i]?<;>simp
theorem Zig{np:Nat} {es:List Ex} {z t:List Nat} {m:List Int} {d:Int} (h:ZaY np es z t=some (m,d))(X:1<=np)(h5:np<=5)(H:∀x∈es,x.1.length=np)(hz:∀i∈z,i<np)(Z:∀i∈t,i<es.length)(aA:z.length+t.length+1=np):MixOf np es z t m d:=by
 unfold ZaY at h;split at h;·cases h
 rename_i l den Y;split at h;·cases h
 rename_i I;split at h;·cases h
 rename_i s;have J:(Zai np es z t).length=np:=by simp[Zai];omega
 have K:∀row∈Zai np es z t,row.length=(Zai np es z t).length+1:=by
  intro row Q;rw[J];simp only[Zai,Zyx,Zyu,ZyC]at Q;rcases Q with rfl|⟨i,y,rfl⟩|⟨i,y,rfl⟩;·simp
  ·simp[ZaA]
  ·have r:es.getD i default∈es:=by rw[ZxS,ZxX (Z i y)];exact Zya _
   rw[Zyc,H _ r];rfl
 obtain⟨E,o,p⟩:=ZfX Y (by omega) K;rw[J]at o p;have hg:0<gcdL 0 (den::l):=Zeg den (by simp) (by omega);obtain⟨-,G⟩:=Zc5 (den::l) 0;generalize gcdL 0 (den::l)=g at*;have u:(0:Int)<g:=by omega
 obtain⟨rfl,rfl⟩:_/\_:=by simpa using h
 have S:=Zom u (l:=l) fun x r=>G x (by simp[r]);have R:(g:Int)*(den / g)=den:=Int.mul_ediv_cancel' (G den (by simp));have D:(l.map (· / (g:Int))).length=np:=by simpa using o
 generalize l.map (· / (g:Int))=m at*;generalize den / (g:Int)=d at*;subst S R;have f:∀{a b:Int},(g:Int)*a=g*b->a=b:=fun h=>Int.eq_of_mul_eq_mul_left (by omega) h;refine⟨D,?_,?_,?_,?_,?_,?_⟩;·exact Int.lt_of_mul_lt_mul_left (a:=(g:Int)) (by simpa using E) (by omega)
 ·intro x r;simp only[Zxo,ZyC,decide_eq_true_eq,not_exists,not_and]at I;have:=I (g*x) ⟨x,r,rfl⟩;have U:0<=(g:Int)*x:=by omega
  exact Zw6 (a:=(g:Int)) (by simpa using U) u
 ·have:=p (List.replicate (np+1) 1) (by simp[Zai]);rw[Zif _ _ (by rw[o];omega),Zk2]at this;have N:(List.replicate (np+1) (1:Int)).getD np 0=1:=by simp[ZxS]
  rw[N]at this;exact f (by omega)
 ·intro i y;have:=p (ZaA (np+1) i) (by simp only[Zai,Zyx,Zyu,ZyC];exact .inr (.inl ⟨i,y,rfl⟩));rw[Zk1 (by rw[o];omega),Zgc _ _ _ (by omega),if_neg (by have:=hz i y;omega),Zpx]at this;exact f (by omega)
 ·intro x r;simp only[Zxo,not_exists,not_and]at s;have:=s x r;simp only[ZwS,decide_eq_false_iff_not,Bool.not_eq_false,Int.not_le,Zxe,decide_eq_true_eq]at this;rw[ZhF]at this;have V:(g:Int)*dotL x.1 m<=g*(x.2*d):=by grind
  exact Zw6 V u
 ·intro i y x r;have O:es.getD i default=x:=by rw[ZxS,r];rfl
  have:=p (x.1++[x.2]) (by simp only[Zai,Zyx,Zyu,ZyC];exact .inr (.inr ⟨i,y,by rw[O]⟩));have L:=H x (ZyD r);rw[Zkb _ _ _ (by rw[o,L]),ZhF]at this;have N:(x.1++[x.2]).getD np 0=x.2:=by simp[ZxS,<-L]
  rw[N]at this;exact f (by grind)
theorem Asc.nodup{b:Nat}:∀{l:List Nat} {a:Nat},Asc a b l->l.Nodup|[],_,_=>List.nodup_nil|x::t,a,h=>ZyL.2 ⟨fun d=>by have:=(Asc.lt h.2.2 x d).1;omega,h.2.2.nodup⟩
def inR(k n x:Nat):Bool:=decide (k<=x)&&decide (x<k+n)
theorem Zpy(k n x:Nat):(if inR k (n+1) x=true then 1 else 0)=(if (x==k)=true then 1 else 0)+if inR (k+1) n x=true then 1 else 0:=by simp only[inR,ZwL,decide_eq_true_eq,beq_iff_eq];split<;>split<;>split<;>omega
theorem Zk3(k n:Nat):∀z:List Nat,z.countP (inR k (n+1))=z.count k+z.countP (inR (k+1) n)|[]=>rfl|x::z=>by have:=Zk3 k n z;have d:=Zpy k n x;rw[List.countP_cons,List.countP_cons,List.count_cons,this];omega
theorem Zda(es:List Ex) {z t:List Nat} (hz:z.Nodup):∀(ws:List Int)(k:Nat),(proofRows es z t k ws).length+z.countP (inR k ws.length)=ws.length
 |[],k=>by
  have:z.countP (inR k ([]:List Int).length)=0:=by rw[List.countP_eq_zero];intro x _;simp[inR]
  rw[this];rfl|w::ws,k=>by
  have f:=Zda es hz ws (k+1) (z:=z) (t:=t);rw[Zyd,Zk3,hz.count];unfold proofRows;by_cases d:k∈z;·simp only[if_pos d];omega
  ·simp only[if_neg d,Zyd];omega
theorem Zih(es:List Ex) {z t:List Nat}:∀(ws:List Int)(d j:Nat)(w:Int),ws[j]?=some w->d+j∉z->proofRow es t (d+j) w∈proofRows es z t d ws
 |[],_,j,w,h,_=>by simp at h|v::ws,d,0,w,h,hz=>by simp at h;subst h;unfold proofRows;rw[if_neg (by simpa using hz)];exact Zyz ..|v::ws,d,j+1,w,h,hz=>by
  have:=Zih es (t:=t) ws (d+1) j w (by simpa using h) (by rwa [show d+1+j=d+(j+1)by omega]);rw[show d+1+j=d+(j+1)by omega]at this;unfold proofRows;split;·exact this
  ·exact Zyy _ this
theorem Zdb(es:List Ex) {z t:List Nat}:∀(ws:List Int)(k:Nat),∀row∈proofRows es z t k ws,row.length=t.length+2
 |[],k,row,h=>by cases h|v::ws,k,row,h=>by
  unfold proofRows at h;split at h;·exact Zdb es ws _ row h
  ·rcases Zyx.1 h with rfl|h;·simp[proofRow]
   ·exact Zdb es ws _ row h
def Zet(es:List Ex)(l:List Int)(c:Nat):Nat->List Nat->Int|_,[]=>0|k,i::t=>l.getD (k+1) 0*(es.getD i default).1.getD c 0+Zet es l c (k+1) t
theorem Zeu(l:List Int):∀(t:List Nat)(k:Nat)(W:List Int),(putW l k t W).length=W.length|[],_,_=>rfl|i::t,k,W=>by unfold putW;rw[Zeu l t];simp
theorem Zk4(c:Nat)(v:Int):∀(es:List Ex)(W:List Int)(i:Nat),i<es.length->i<W.length->putsL es (W.set i v) c=putsL es W c+(v-W.getD i 0)*(es.getD i default).1.getD c 0|[],_,_,h,_=>by simp at h|_::_,[],_,_,h=>by simp at h|x::es,w::W,0,_,_=>by simp only[List.set_cons_zero,putsL,ZxR];grind|x::es,w::W,i+1,h,h'=>by simp only[List.set_cons_succ,putsL,ZxQ];rw[Zk4 c v es W i (by simpa using h) (by simpa using h')];omega
theorem Zgd(es:List Ex)(l:List Int)(c:Nat):∀(t:List Nat)(k:Nat)(W:List Int),W.length=es.length->t.Nodup->(∀i∈t,i<es.length)->(∀i∈t,W.getD i 0=0)->putsL es (putW l k t W) c=putsL es W c+Zet es l c k t|[],k,W,_,_,_,_=>by simp[putW,Zet]|i::t,k,W,hW,hnd,ht,h0=>by obtain⟨h,d⟩:=ZyL.1 hnd;unfold putW;rw[Zgd es l c t (k+1) _ (by simpa using hW) d (fun j f=>ht j (Zyy _ f)) (fun j f=>by rw[ZxS,Zx6 (by rintro rfl;exact h f),<-ZxS];exact h0 j (Zyy _ f)),Zk4 c _ es W i (ht i (Zyz ..)) (by rw[hW];exact ht i (Zyz ..)),h0 i (Zyz ..)];simp only[Zet,Int.sub_zero];omega
theorem Zii(c n:Nat):∀es:List Ex,putsL es (List.replicate n 0) c=0:=by induction n with|zero=>intro es;cases es<;>simp[putsL]|succ n ih=>intro es;cases es with|nil=>simp[putsL]|cons x es=>simp only[ZyQ,putsL];rw[ih es];simp
theorem Zk5(l:List Int):∀(t:List Nat)(k:Nat)(W:List Int),(∀w∈W,0<=w)->(∀j,j<t.length->0<=l.getD (k+1+j) 0)->∀w∈putW l k t W,0<=w
 |[],_,_,h,_,w,hw=>h w hw|i::t,k,W,h,hl,w,hw=>by
  unfold putW at hw;refine Zk5 l t (k+1) _ (fun v d=>?_) (fun j f=>?_) w hw
  ·rcases List.mem_or_eq_of_mem_set d with d|rfl;·exact h v d
   ·exact hl 0 (by simp)
  ·have:=hl (j+1) (by simpa using f);rwa [show k+1+(j+1)=k+1+1+j by omega]at this
end Go.Proofs
namespace Go.Proofs
open Tryz
open Go.RowKit
theorem Zge{es:List En} {np:Nat} (h:RightE es np)(i c:Nat):(((exs es).getD i default).1.getD c 0).natAbs<=20:=by rw[ZxS (l:=exs es)];cases d:(exs es)[i]? with|none=>simp[default,instInhabitedProd]|some x=>exact(h.exs_co x (ZyD d)).get c
theorem Zgf{es:List En} {np:Nat} (h:RightE es np) {z t:List Nat}:∀(ws:List Int)(k:Nat),ZM 400 ws->Zch (proofRows (exs es) z t k ws)
 |[],_,_,row,f=>by cases f|w::ws,k,hs,row,f=>by
  unfold proofRows at f;have m:=Zgf h (z:=z) (t:=t) ws (k+1) fun x d=>hs x (by simp[d]);split at f;·exact m row f
  ·rcases Zyx.1 f with rfl|f
   ·intro x d;unfold proofRow at d;rcases Zyx.1 d with rfl|d;·decide
    ·rcases Zyu.1 d with d|d;·obtain⟨i,-,rfl⟩:=ZyC.1 d;rw[Int.natAbs_neg];exact Zzb (Zge h i k) (by decide)
     ·rw[ZyH]at d;subst d;exact hs x (by simp)
   ·exact m row f
def Zev(q:Option Prf)(d f:Nat)(e:Ending)(w':World):Prop:=match q with|none=>e=.returned (.tuple #[.agg #[.int .i64 0,.int .i64 0,.slice none 0 0],.bool false])|some p=>∃A c,e=.returned (.tuple #[.agg #[.int .i64 p.den,.int .i64 p.lev,.slice A d c],.bool true])/\w'.ownsRow f 3 1 (.slice A d c) d (p.W.map (Value.int .i64))
theorem Zgg{P:Program} {f:Operand->Value} {o:Oper} {t:TypeId} {p q:Operand} {v r:Value} {x d:World} (i:o.op=.makeSlice t p q)(hp:f p=v)(hq:f q=v)(h:(Instr.makeSlice t v v).run P x=.ok r d):(execOp f o).run P x=.ok (.value r) d:=by unfold execOp;rw[i];simp only[hp,hq,Sem.run_bind,h,Result.andThen_ok,Sem.run_pure]
theorem Zpz(pA eA tA wA:Option Addr)(zv:Value)(np pc d ec tn tc wc:Nat)(es:List En)(ws:List Int)(z t:List Nat)(w:World)(hR:RightE es np)(hE:Zat w eA es)(eL:es.length=d)(hT:At 1 Zc w tA (ZZ t))(eZ:t.length=tn)(hW:At 1 Zc w wA ws)(fF:ws.length=np)(h5:np<=5)(fG:ZM 400 ws)(hz:∀i∈z,i<np)(fK:z.Nodup)(ht:∀i∈t,i<d)(cY:t.Nodup)(fM:z.length+t.length+1=np)(fL:zv.oneCell'=true):Calls prog 90 #[.agg (ZW (.slice pA np pc) (.slice eA d ec) zv (.slice tA tn tc) z t).toArray,.slice wA np wc] w fun e w'=>Zev (ZbH (exs es) ws z t) d w.heap.size e w'/\Below w.heap.size w w':=by
 obtain⟨BA,dC⟩:∃BA,(ZW (.slice pA np pc) (.slice eA d ec) zv (.slice tA tn tc) z t).toArray=BA:=⟨_,rfl⟩;have fP:=hR.n8;have fT:=Zxi fun W (hb:Below w.heap.size w W) k (hk:k<tn)=>Zan (hT.below hb) (k:=k) (by rw[Zep];omega);have fW:=Zxi fun W (hb:Below w.heap.size w W) k (hk:k<np)=>Zan (hW.below hb) (k:=k) (by omega);have fE:=Zxi fun W (hb:Below w.heap.size w W) i c (hi:i<d)(hc:c<np)=>(by
  have dK:i<es.length:=by omega
  obtain⟨b,o,hA,bJ,gB⟩:=(hE.below hb).1 i _ (ZxX dK);have hx:=Zya dK;obtain⟨h1,h2,-⟩:=hR.co _ hx;obtain⟨b2,o2,hA2,eQ,gA⟩:=Zan ((hE.below hb).2 _ hx) (k:=c) (by omega);refine⟨es[i],b,o,b2,o2,hA,bJ,eQ,h1,?_,gA,h2.get c,Zc6 (ZxX dK)⟩;have:=gB 1 _ rfl;rw[hA2]at this;exact this:∃x:En,∃b o b2 o2,eA=some ⟨b,o,none⟩/\b<W.heap.size/\b2<W.heap.size/\x.co.length=np/\W.cell? ⟨b,o+i*3+1,none⟩=some (.slice (some ⟨b2,o2,none⟩) x.co.length x.c)/\W.cell? ⟨b2,o2+c,none⟩=some (.int .i64 (x.co.getD c 0))/\(x.co.getD c 0).natAbs<=20/\(exs es).getD i default=(x.co,x.mo));have cG:=Zxi hR;have fO:=Zxi hE;have J:=Zxi eL;have Z:=Zxi eZ;have aD:=Zxi fF;have cC:=Zxi fG;have gQ:=Zxi hz;have eY:=Zxi ht;have dA:=Zxi fK;have gL:=Zxi cY;have fN:=Zxi fM;have gX:=Zxi fL;have aE:=Zxi dC;have hY:tn<=4:=by omega
 rw[dC];obtain⟨i0,hi,dV,dW,dX⟩:=info_parts info3;obtain⟨i1,hj,gE,gF,cI⟩:=info_parts info31;obtain⟨X,hX⟩:∃X,exs es=X:=⟨_,rfl⟩;have aS:=Zxi hX;rw[hX]at fE |-;clear hR hE eL eZ fF fG hz ht fK cY fM fL dC hT hW hX;go_enter func90,ntmps90;go_wp2;go_loopw [6,24] (fun v6 i wr=>∃(k:Nat)(xs:List IR),k<=np/\i=.int .i64 k/\Hid (RowsOwn wr (w.heap.size+2) v6 xs/\xs.map IR.l=proofRows X z t 0 (ws.take k))/\wr.heap[w.heap.size]?=some (.cells BA 140 (0,0))/\wr.heap[w.heap.size+1]?=some (.cells #[.int .i64 0,.int .i64 0,.slice none 0 0] 35 (0,0))/\Below w.heap.size w wr)(fun _ i _=>np-(intOf i).toNat);case atStart=>exact⟨0,[],Zzx _,rfl,⟨RowsOwn.nil _ _,by simp[proofRows]⟩,by(repeat (first|assumption|(refine ZA _ _ ?_;(simp;done))|refine ZD ?_|refine Zz ?_ _|refine ZB ?_ (by simp<;>omega) _)),by(repeat (first|assumption|(refine ZA _ _ ?_;(simp;done))|refine ZD ?_|refine Zz ?_ _|refine ZB ?_ (by simp<;>omega) _)),by go_grown⟩
 case round=>
  obtain⟨wo,gN⟩:∃wo,wo=wr:=⟨_,rfl⟩;subst gN;obtain⟨k,xs,hk,rfl,E,M0,M1,aU⟩:=hrel;have s0:=ZI M0;have s1:=ZI M1;have MB:wo.heap[w.heap.size]?=some (.cells (ZW (.slice pA np pc) (.slice eA d ec) zv (.slice tA tn tc) z t).toArray 140 (0,0)):=by rw[aE.out];exact M0
  have bB:=Zaq MB (k:=1) rfl;have aN:=Zaq MB (k:=3) rfl;by_cases bJ:k<np
  ·have eN:(k:Int)<(np:Int):=by omega
   have hM:(k:Int)<5:=by omega
   obtain⟨bw,ow,rfl,eK,cw⟩:=fW.out wo aU k bJ;obtain⟨u,N⟩:∃u,ws[k]?=some u:=⟨_,ZxX (by rw[aD.out];exact bJ)⟩;have fA:ws.getD k 0=u:=by rw[ZxS,N];rfl
   rw[fA]at cw;have cz:=Zaq MB (Zf9 (.slice pA np pc) (.slice eA d ec) zv (.slice tA tn tc) z t k (by omega));have cM:=Zxi (show proofRows X z t 0 (ws.take (k+1))=proofRows X z t 0 (ws.take k)++if k∈z then []else [proofRow X t k u]by rw[ZyV,N];have:=Zia X z t (ws.take k) 0 u;rw[Zyj,Zzk (by rw[aD.out];omega),Zzw]at this;exact this);have gP:Hid (xs.length<=k):=Zxi (by have h1:=congrArg List.length E.out.2;rw[Zyf]at h1;have h2:=Zda X (t:=t) dA.out (ws.take k) 0;rw[Zyj,Zzk (by rw[aD.out];omega)]at h2;omega);clear N fA MB;by_cases bI:k∈z
   ·have bV:decide (k∈z)=true:=by simpa using bI
    rw[bV]at cz;have cL:=Zxi (show RowsOwn wo (w.heap.size+2) u6 xs/\xs.map IR.l=proofRows X z t 0 (ws.take (k+1))from⟨E.out.1,by rw[cM.out,if_pos bI,Zxq];exact E.out.2⟩);clear bI E cM;go_wp2;go_roundw;case rel=>exact⟨k+1,xs,by omega,by go_num,cL.out,M0,M1,aU⟩
    case measure=>simp[intOf]<;>omega
   ·have bV:decide (k∈z)=false:=by simpa using bI
    rw[bV]at cz;have cL:=Zxi (show proofRows X z t 0 (ws.take (k+1))=xs.map IR.l++[proofRow X t k u]from by rw[cM.out,if_neg bI,E.out.2]);have aM:=Zxi E.out.1;clear bI E cM;go_wp2;go_loopw [9,37] (fun v9 j wi=>∃q:Nat,q<=tn/\j=.int .i64 q/\wi.ownsRow wo.heap.size 3 1 v9 (q+1) ((ZcQ X t k q).map (Value.int .i64))/\Below wo.heap.size wo wi/\wo.heap.size<wi.heap.size) (fun _ j _=>tn-(intOf j).toNat);case atStart=>
     refine⟨0,Zzx _,rfl,?_,?_,?_⟩;·exact⟨rfl,.inr ⟨wo.heap.size,1,#[.int .i64 1],rfl,Zza _,ZA _ _ rfl,Zza _,by decide,rfl,rfl⟩⟩
     ·exact ZC _ _
     ·simp
    case round=>
     obtain⟨q,hq,rfl,aH,bO,hU⟩:=hrel;obtain⟨A9,c9,rfl⟩:=Z6 aH;have N0:=(bO.block _ s0).trans M0;have N1:=(bO.block _ s1).trans M1;have NB:wr.heap[w.heap.size]?=some (.cells (ZW (.slice pA np pc) (.slice eA d ec) zv (.slice tA tn tc) z t).toArray 140 (0,0)):=by rw[aE.out];exact N0
     have dY:=Zaq NB (k:=1) rfl;have O:=via aU bO;have t0:=ZI N0;have r:=Zxi aH;clear aH NB;by_cases aR:q<tn
     ·have gJ:(q:Int)<(tn:Int):=by omega
      obtain⟨bt,ot,rfl,fZ,ct⟩:=fT.out wr O q aR;obtain⟨i,aL⟩:∃i,t[q]?=some i:=⟨_,ZxX (by rw[Z.out];exact aR)⟩;have bU:(ZZ t).getD q 0=(i:Int):=by rw[ZxS,Zcw aL];rfl
      rw[bU]at ct;have dL:=eY.out i (ZyD aL);have G:=Zxi (ZkS (es:=X) (c:=k) aL);have gD:(i:Int)<(d:Int):=by omega
      obtain⟨x,be,oe,b2,o2,rfl,hJ,aT,cO,c1,c2,gK,hg⟩:=fE.out wr O i k dL bJ;have hO:(k:Int)<(x.co.length:Int):=by omega
      rw[hg]at G;obtain⟨y,hy⟩:∃y,x.co.getD k 0=y:=⟨_,rfl⟩;dsimp only at G;rw[hy]at c2 gK G;have hZ:IntKind.i64.wrap (-y)=-y:=Zxg _ (by omega);generalize x.co.length=L at*;clear bU aL hy hg;go_wp2_with (at_builtin;refine wpList_append_own _ rfl _ _ 31 rfl wo.heap.size 3 i0 (.int .i64 0) 1 8 underlying31 hi dV dW dX rfl (by decide) _ _ _ rfl (r.out.alloc _) ⟨wr.heap.size,0,none⟩ 1 1 [.int .i64 (-y)] rfl rfl ?c1 ?c2 ?c3 ?c4 ?c5 ?_);case c1=>exact Zbp _ [.int .i64 (-y)] _ (by simp)
      case c2=>intro u N;simp at N;subst N;rfl
      case c3=>unfold maxLen;omega
      case c4=>omega
      case c5=>simp;omega
      intro v' w3 aB bH _;have aK:Below wo.heap.size wo w3:=Z3 (via bO (ZC _ _)) bH fun b e=>(r.out.lt b e).1;have eX:wo.heap.size<w3.heap.size:=by have:=bH.size;simp at this;omega
      have I:=Zxi (show w3.ownsRow wo.heap.size 3 1 v' (q+1+1) ((ZcQ X t k (q+1)).map (Value.int .i64))from by rw[G.out,Zyn];exact aB);clear aB bH r G;go_wp2;go_roundw;case rel=>exact⟨q+1,by omega,by go_num,I.out,aK,eX⟩
      case measure=>simp[intOf]<;>omega
     ·obtain rfl:q=tn:=by omega
      clear dY aR;go_wp2_with (at_builtin;refine wpList_append_lies _ rfl _ _ 31 rfl wo.heap.size 3 i0 (.int .i64 0) 1 8 underlying31 hi dV dW dX rfl (by decide) _ _ _ rfl (r.out.alloc _) ⟨wr.heap.size,0,none⟩ 1 1 [.int .i64 u] rfl rfl ?c1 ?c2 (by decide) ?c3 ?c4 ?c5 (wr.heap.size+1) ?c6 ?_);case c1=>exact Zbp _ [.int .i64 u] _ (by simp)
      case c2=>intro u N;simp at N;subst N;rfl
      case c3=>unfold maxLen;omega
      case c4=>omega
      case c5=>simp;omega
      case c6=>simp
      intro g9 aI w3 aB bH eT eR;have aK:Below wo.heap.size wo w3:=Z3 (via bO (ZC _ _)) bH fun b e=>(r.out.lt b e).1;have fV:=(aB.lt g9 rfl).1;have aJ:=Zxi (aM.out.below aK);have fJ:=Zxi (show At 1 Zc w3 (some ⟨g9,0,none⟩) (proofRow X t k u)from ZaE (base:=wo.heap.size) (n:=q+1+1) (e:=3) (c:=aI) (by rw[<-ZkT,Zyn,Z.out];exact aB));have cK:=Zxi (show (proofRow X t k u).length=q+1+1 from by simp[proofRow,Z.out]);have eS:=Zxi (show some g9≠u6.ownBlock from fun e=>by have:=(aM.out.own.lt g9 e.symm).2;omega);have gV:wo.heap.size<w3.heap.size:=Nat.lt_of_le_of_lt fV eR;have bR:=via aU aK;have P0:=(aK.block _ s0).trans M0;have P1:=(aK.block _ s1).trans M1;obtain⟨A6,c6,rfl⟩:=Z6 aM.out.own;clear aB bH eT r N0 N1;have gW:=gP.out;go_wp2_with (at_builtin;refine wpList_append_lies _ rfl _ _ 160 rfl (w.heap.size+2) 31 i1 (.slice none 0 0) 1 24 underlying160 hj gE gF cI rfl (by decide) _ _ _ rfl (aJ.out.own.alloc _) ⟨w3.heap.size,0,none⟩ 1 1 [.slice (some ⟨g9,0,none⟩) (q+1+1) aI] rfl rfl ?c1 ?c2 (by decide) ?c3 ?c4 ?c5 (w3.heap.size+1) ?c6 ?_);case c1=>exact Zbp _ [.slice (some ⟨g9,0,none⟩) (q+1+1) aI] _ (by simp)
      case c2=>intro u N;simp at N;subst N;rfl
      case c3=>unfold maxLen;omega
      case c4=>omega
      case c5=>simp;omega
      case c6=>simp
      intro g hC w4 I aQ cW gS;have eG:=Zxi (RowsOwn.push (x:=⟨some ⟨g9,0,none⟩,aI,proofRow X t k u⟩) aJ.out (ZC w3 _) rfl (fJ.out.below (ZC w3 _)) (by dsimp only;omega) (by simp;omega) eS.out aQ (by show w4.ownsRow _ 31 1 _ _ (_++[Value.slice (some ⟨g9,0,none⟩) (proofRow X t k u).length aI]);rw[cK.out];exact I) (by simpa using cW));have aC:Below w.heap.size w w4:=Z3 (via bR (ZC _ _)) aQ fun b e=>by have:=(aJ.out.own.lt b e).1;omega
      have Q0:=ZaM aQ (Zz P0 _) (ZaL aJ.out.own (by omega));have Q1:=ZaM aQ (Zz P1 _) (ZaL aJ.out.own (by omega));have S:=Zxi (show (xs++[(⟨some ⟨g9,0,none⟩,aI,proofRow X t k u⟩:IR)]).map IR.l=proofRows X z t 0 (ws.take (k+1))from by rw[cL.out,Zyn];rfl);clear I aQ cW aJ fJ cL P0 P1;go_wp2;go_roundw;case rel=>exact⟨k+1,_,by omega,by go_num,⟨eG.out,S.out⟩,Q0,Q1,aC⟩
      case measure=>simp[intOf]<;>omega
  ·obtain rfl:np=k:=by omega
   have aO:ws.take np=ws:=by rw[<-aD.out,ZyW]
   obtain⟨dQ,S⟩:=E.out;rw[aO]at S;have cO:xs.length=tn+1:=by
    have h1:=congrArg List.length S;rw[Zyf]at h1;have h2:=Zda X (t:=t) dA.out ws 0;have h3:z.countP (inR 0 ws.length)=z.length:=by rw[Zxz];intro x hx;have:=gQ.out x hx;have:=aD.out;simp[inR];omega
    have:=fN.out;have:=aD.out;have:=Z.out;omega
   obtain⟨A6,c6,rfl⟩:=Z6 dQ.own;have hS:=Zxi (ZhT A6 xs c6 wo dQ.rowsAt (fun x hx=>by have:=Zdb X (z:=z) (t:=t) ws 0 x.l (by rw[<-S];exact ZyC.2 ⟨x,hx,rfl⟩);have:=Z.out;omega) (by omega) (by omega) (by rw[S,<-aS.out];exact Zgf cG.out ws 0 cC.out));rw[S]at hS;rw[cO]at hS |-;have bZ:=Zxi S;have cZ:=Zxi cO;obtain⟨sl,dU⟩:∃sl,ZaK (proofRows X z t 0 ws)=sl:=⟨_,rfl⟩;have aZ:=Zxi dU;unfold ZdJ at hS;rw[dU]at hS;clear dU dQ E aO bJ MB bB aN cO S;rcases sl with _|⟨l,den⟩
   ·dsimp only at hS;have aG:=Zxi (show ZbH X ws z t=none by unfold ZbH;rw[aZ.out]);go_wp2_with (go_at_call 105;refine hS.out.mono ?_;rintro e w2 ⟨rfl,aT⟩;have N1:=Zw aT M1;have C1:=bk3 N1;have O:=via aU aT);refine bodyPost_ret (v:=.tuple #[.agg #[.int .i64 0,.int .i64 0,.slice none 0 0],.bool false]) ?_ rfl ⟨?_,by go_grown⟩;·simp[results,results90,go_sem,C1]
    ·unfold Zev;rw[aG.out]
   ·dsimp only at hS;have cK:(proofRows X z t 0 ws).length=tn+1:=by rw[<-bZ.out,Zyf];exact cZ.out
    obtain⟨cJ,dI,hK,eP⟩:=ZfY aZ.out (by omega) (by rw[<-aS.out];exact Zgf cG.out ws 0 cC.out);rw[cK]at cJ;rw[cJ]at hS;have cU:=Zxi cJ;have bY:=Zxi eP;clear eP cK cJ;go_wp2_with (go_at_call 105;refine hS.out.mono ?_;rintro e w2 ⟨⟨v,rfl,aH⟩,aT⟩;obtain⟨gY,gZ,rfl⟩:=Z6 aH;have N0:=Zw aT M0;have N1:=Zw aT M1;have C1:=bk3 N1;have O:=via aU aT;have r:=Zxi aH;clear aH);have NB:w2.heap[w.heap.size]?=some (.cells (ZW (.slice pA np pc) (.slice eA d ec) zv (.slice tA tn tc) z t).toArray 140 (0,0)):=by rw[aE.out];exact N0
    have bB:=Zaq NB (k:=1) rfl;have aN:=Zaq NB (k:=3) rfl;have cE:=Zaq NB (k:=0) rfl;obtain⟨lev,bW⟩:∃lev,l.getD 0 0=lev:=⟨_,rfl⟩;have cT:=ZaE r.out;obtain⟨bK,hA12,fY,bM,c0⟩:=ZdI r.out (k:=0) (u:=.int .i64 lev) (by rw[<-bW];cases l with|nil=>have:=cU.out;simp at this|cons x l=>rfl);subst hA12;have aW:=Zxi bW;have dN:=Zxi cT;clear hS bW cT NB;have gU:=ZI N1;apply Zpn w 8 10 11 d (.cells (Zax (List.replicate d 0)) 3 (0,0)) (.cells #[.int .i64 0,.int .i64 0,.slice none 0 0] 35 (0,0)) (fun h=>.cells #[.int .i64 den,.int .i64 lev,.slice (some ⟨h.b,0,none⟩) d d] 35 (0,0));case hm=>kernel_rfl
    case hB=>kernel_rfl
    case hB'=>intro g;kernel_rfl
    case hS=>kernel_rfl
    case hN=>kernel_rfl
    case hne=>decide
    case hkd=>kernel_rfl
    case hcl=>intro L _ o U h;simp at U;subst U;simp[Region.binds]at h;exact⟨by simp[h],by simp[h]⟩
    case hw=>exact O
    case hq=>
     intro g u N bT bG fX;have d0:=Zw N N0;have NB:u.heap[w.heap.size]?=some (.cells (ZW (.slice pA np pc) (.slice eA d ec) zv (.slice tA tn tc) z t).toArray 140 (0,0)):=by rw[aE.out];exact d0
     have e1:=Zaq NB (k:=1) rfl;have e2:=(N.cell (show (⟨bK,0,none⟩:Addr).block<_ from bM)).trans c0;have z1:bK<u.heap.size:=Zzf bM N.size;have z2:w.heap.size<u.heap.size:=ZI d0;simp only[mixL,mkMAS,yieldsC,Zxu,Zxx,Nat.reduceAdd,Nat.reduceBEq,Zzw,ZwV,ZwX,ZwQ,ZwY,ZwP,if_true,if_false,ZwW,Nat.reduceEqDiff];repeat (go_big_quiet_step (fail))
     exact wpQuiet_nil rfl
    case hal1=>intro o U g x bG;simp only[ZxV,ZxW,ZzF]at U;subst U;refine Zgg (v:=.int .i64 d) rfl (by kernel_rfl) (by kernel_rfl) ?_;exact Zcg d (by have:=J.out;omega) x
    case hal2=>intro o U g x;simp only[ZxV,ZxW,ZzF]at U;subst U;kernel_rfl
    case hind=>intro j hj;simp only[Zyx,ZyN,or_false]at hj;rcases hj with rfl|rfl|rfl<;>(intro g h;kernel_rfl)
    case hs=>intro o U g x hx hz;simp only[ZxV,ZxW,ZzF]at U;subst U;exact⟨_,Zc9 rfl rfl rfl rfl (by kernel_rfl) (by kernel_rfl) (by kernel_rfl) hz,(((OnlyB.refl _ _).set _ _).set _ _).set _ _,ZG (ZG (ZG hz _ rfl) _ rfl) _ rfl⟩
    case hend=>
    intro g u dB dZ aY N bR E1 E2;obtain⟨R,hR⟩:∃R,(g 8).b=R:=⟨_,rfl⟩;obtain⟨Q,hQ⟩:∃Q,(g 10).b=Q:=⟨_,rfl⟩;rw[hR]at dB aY E1 E2;rw[hQ]at dZ aY E2;have hI:Hid (ZJ 3 u R (List.replicate d 0)):=Zxi E1;rw[hR,hQ];clear hR hQ C1 bB aN cE c0 E1 bR M0 M1 g aU bZ cZ;have P0:=Zw N N0;have NB:u.heap[w.heap.size]?=some (.cells (ZW (.slice pA np pc) (.slice eA d ec) zv (.slice tA tn tc) z t).toArray 140 (0,0)):=by rw[aE.out];exact P0
    have aN:=Zaq NB (k:=3) rfl;clear NB P0;go_wp2;go_loopw [86] (fun i wr=>∃q:Nat,q<=tn/\i=.int .i64 q/\Hid (ZJ 3 wr R (putW l 0 (t.take q) (List.replicate d 0)))/\wr.heap[Q]?=some (.cells #[.int .i64 den,.int .i64 lev,.slice (some ⟨R,0,none⟩) d d] 35 (0,0))/\Hid (∀j,j<q->¬l.getD (j+1) 0<0)/\Below w2.heap.size w2 wr) (fun i _=>tn-(intOf i).toNat);case atStart=>exact⟨0,Zzx _,rfl,hI.out,E2,fun j hj=>by omega,N⟩
    case round=>
     clear hI E2 aN;obtain⟨q,hq,rfl,H,aA,dP,K⟩:=hrel;have P0:=Zw K N0;have P1:=Zw K N1;have NB:wr.heap[w.heap.size]?=some (.cells (ZW (.slice pA np pc) (.slice eA d ec) zv (.slice tA tn tc) z t).toArray 140 (0,0)):=by rw[aE.out];exact P0
     have aN:=Zaq NB (k:=3) rfl;have D:=bk3 aA;have aC:=via O K;clear NB;by_cases aR:q<tn
     ·have gJ:(q:Int)<(tn:Int):=by omega
      obtain⟨bt,ot,rfl,fZ,ct⟩:=fT.out wr aC q aR;obtain⟨i,aL⟩:∃i,t[q]?=some i:=⟨_,ZxX (by rw[Z.out];exact aR)⟩;have bU:(ZZ t).getD q 0=(i:Int):=by rw[ZxS,Zcw aL];rfl
      rw[bU]at ct;have dL:=eY.out i (ZyD aL);have gD:(i:Int)<(d:Int):=by omega
      have G:=Zxi (Zkl l (W:=List.replicate d 0) aL);obtain⟨b9,o9,e9,-,cl⟩:=Zan (dN.out.below K) (k:=q+1) (by rw[cU.out];omega);cases e9;rw[Zzw]at cl;obtain⟨x,hx⟩:∃x,l.getD (q+1) 0=x:=⟨_,rfl⟩;rw[hx]at cl G;have fH:=Zxi hx;obtain⟨V,hV⟩:∃V,putW l 0 (t.take q) (List.replicate d 0)=V:=⟨_,rfl⟩;rw[hV]at H G;have eH:V.length=d:=by rw[<-hV,Zeu,Zyi]
      have ci:=H.out.loadD (k:=i) (by omega);have fi:=H.out.frozen i;have eW:=H.out.size;have eU:bK<wr.heap.size:=Zzf bM K.size;have eV:=ZI aA;have cN:IntKind.i64.wrap ((q:Int)+1)=(q:Int)+1:=Zxg _ (by omega);have eI:=Zxi eH;clear bU aL hx hV eH;go_wp2;refine ZaR w 9 (by kernel_rfl) (by kernel_rfl) (by go_grown) ?_;intro bT bG;simp only[ZyY,Zy0,ZxB,ZxC];repeat (go_big_quiet_step (fail))
      refine wpQuiet_nil ?_;intro wb m aX dS;clear bT bG;have bF:=Zxi (H.out.below m);have dE:=Zw m aA;have R1:=Zw m P1;have C1:=bk3 R1;have bP:=via K m;have hD:=bF.out.loadD (k:=i) (by rw[eI.out];exact dL);have hH:=bF.out.frozen i;have hG:=(m.cell (show (⟨bK,q+1,none⟩:Addr).block<_ from eU)).trans cl;have gT:bK≠R:=by omega
      have hP:w.heap.size+1≠R:=by omega
      have fR:=Zxi (show ZJ 3 (wb.setCell ⟨R,i,none⟩ (.int .i64 x)) R (putW l 0 (t.take (q+1)) (List.replicate d 0))from by have:=bF.out.store i x;rwa [<-G.out]at this);clear H aA P0 P1 D ci fi cl aN ct bF;by_cases fI:x<0
      ·have aG:=Zxi (show ZbH X ws z t=none by unfold ZbH;simp only[aZ.out];rw[if_pos (Zkm (k:=q) (by rw[Z.out];exact aR) (by rw[fH.out];exact fI))]);go_wp2;refine bodyPost_ret (v:=.tuple #[.agg #[.int .i64 0,.int .i64 0,.slice none 0 0],.bool false]) ?_ rfl ⟨?_,?_⟩;·refine ZaB (p:=4) (u:=5) (ad:=⟨w.heap.size+1,0,none⟩) (v:=.agg #[.int .i64 0,.int .i64 0,.slice none 0 0]) rfl (by rfl) (Zac (T:=35) (cs:=[.int .i64 0,.int .i64 0,.slice none 0 0]) (by kernel_rfl) (by kernel_rfl) ?_);exact ZG (ZG (ZG (ZB R1 (by first|omega|(dsimp only;omega)) _) _ rfl) _ rfl) _ rfl
       ·unfold Zev;rw[aG.out]
       ·first|go_grown|(repeat' (first|exact aX|refine ZwK ?_ (by dsimp only;omega) _))
      ·go_wp2;go_roundw;case rel=>exact⟨q+1,by omega,by go_num,fR.out,ZB dE (by first|omega|(dsimp only;omega)) _,(fun j hj=>by
        by_cases gH:j=q;·rw[gH,fH.out];exact fI
        ·have:=dP.out j (by omega);omega),bP.setCell (by first|omega|(dsimp only;omega)) _⟩
       case measure=>simp[intOf]<;>omega
     ·obtain rfl:tn=q:=by omega
      have aO:t.take tn=t:=by rw[<-Z.out,ZyW]
      rw[aO]at H;obtain⟨W,hW⟩:∃W,putW l 0 t (List.replicate d 0)=W:=⟨_,rfl⟩;rw[hW]at H;have aF:=Zxi (show W.length=d by rw[<-hW,Zeu,Zyi]);have cH:=Zxi (show ZM 1228800000000000 W by rw[<-hW];exact ZfZ bY.out t 0 _ fun x hx=>by rw[ZxF hx];decide);have cA:=Zxi (show ZbH X ws z t=if Zce X den lev W 0 ws=true then some {den:=den / (gcdL 0 (den::lev::W):Int),lev:=lev / (gcdL 0 (den::lev::W):Int),W:=W.map (· / (gcdL 0 (den::lev::W):Int))} else none by
       have fU:X.length=d:=by rw[<-aS.out,Zaf];exact J.out
       unfold ZbH;simp only[aZ.out];rw[if_neg (by rw[Zkn (by rw[Z.out];exact dP.out)];decide),fU,hW,aW.out]);clear aR aO hW dP aN D P0 P1;go_wp2;go_loopw [110] (fun i wr=>∃k:Nat,k<=np/\i=.int .i64 k/\Hid (ZJ 3 wr R W)/\wr.heap[Q]?=some (.cells #[.int .i64 den,.int .i64 lev,.slice (some ⟨R,0,none⟩) d d] 35 (0,0))/\Hid (∀j,j<k->¬(ws.getD j 0*den+putsL X W j<lev))/\Below w2.heap.size w2 wr)(fun i _=>np-(intOf i).toNat);case atStart=>exact⟨0,Zzx _,rfl,H.out,aA,fun j hj=>by omega,K⟩
      case round=>
       clear H aA K aC;obtain⟨k,hk,rfl,H,aA,dO,K⟩:=hrel;have P0:=Zw K N0;have P1:=Zw K N1;have NB:wr.heap[w.heap.size]?=some (.cells (ZW (.slice pA np pc) (.slice eA d ec) zv (.slice tA tn tc) z t).toArray 140 (0,0)):=by rw[aE.out];exact P0
       have cE:=Zaq NB (k:=0) rfl;have bB:=Zaq NB (k:=1) rfl;have D:=bk3 aA;have aC:=via O K;have eW:=H.out.size;have eV:=ZI aA;have dR:=ZI P0;clear NB;by_cases aV:k<np
       ·have eN:(k:Int)<(np:Int):=by omega
        obtain⟨bw,ow,rfl,eK,cw⟩:=fW.out wr aC k aV;obtain⟨u,N⟩:∃u,ws.getD k 0=u:=⟨_,rfl⟩;rw[N]at cw;obtain⟨T,hT⟩:∃T,putsL X W k=T:=⟨_,rfl⟩;have eD:=Zxi fun(x:Grew wr)=>(by have:=ZhR pA eA (some ⟨R,0,none⟩) np pc ec d np es W den lev k x.val cG.out (fO.out.below (via aC x.ok)) (H.out.below x.ok).at' (by rw[aF.out,J.out]) aV (fun y hy=>Zzb (cH.out y hy) (by decide));rw[J.out,aF.out,aS.out,hT]at this;exact this:Calls prog 100 #[.agg #[(.slice pA np pc),(.slice eA d ec)],.agg #[.int .i64 den,.int .i64 lev,.slice (some ⟨R,0,none⟩) d d],.int .i64 k] x.val fun e w'=>e=.returned (.int .i64 T)/\Below x.val.heap.size x.val w');have fS:T.natAbs<=8*(1228800000000000*20):=by have:=Ze6 (X:=20) (Y:=1228800000000000) k X W X.length (by rw[<-aS.out];exact cG.out.exs_co) cH.out;rw[ZyW,<-aS.out,Zaf,ZyX (by rw[aF.out,J.out];exact Zza _),aS.out,hT]at this;refine Zzb this (Zzm _ fP)
        have fB:u.natAbs<=400:=by rw[<-N];exact cC.out.get k
        have fC:=Zaj fB dI;obtain⟨y,hy⟩:∃y,u*den=y:=⟨_,rfl⟩;rw[hy]at fC;obtain⟨s,hs⟩:∃s,y+T=s:=⟨_,rfl⟩;have cN:IntKind.i64.wrap (u*den)=y:=by rw[hy];exact Zxg _ (by omega)
        have fD:IntKind.i64.wrap (y+T)=s:=by rw[hs];exact Zxg _ (by omega)
        have cX:=Zxi (show ws.getD k 0*den+putsL X W k=s by rw[N,hT,hy,hs]);clear N hT fS fB fC hy hs;go_wp2;refine ZaR w 11 (by kernel_rfl) (by kernel_rfl) (by go_grown) ?_;intro bT bG;simp only[ZyY,Zy0,ZxB,ZxC];repeat (go_big_quiet_step ((go_at_call 100;with_reducible exact Grew.call (eD.out _))))
        refine wpQuiet_nil ?_;intro wb m aX dS;clear bT bG;have bF:=Zxi (H.out.below m);have dE:=Zw m aA;have R1:=Zw m P1;have C1:=bk3 R1;have bP:=via K m;clear H aA P0 P1 D cE bB cw eD;by_cases dR:s<lev
        ·have aG:=Zxi (show ZbH X ws z t=none by rw[cA.out,ZoM (j:=k) (by rw[aD.out];exact aV) (by rw[cX.out];exact dR)];rfl);go_wp2;refine bodyPost_ret (v:=.tuple #[.agg #[.int .i64 0,.int .i64 0,.slice none 0 0],.bool false]) ?_ rfl ⟨?_,?_⟩;·refine ZaB (p:=4) (u:=5) (ad:=⟨w.heap.size+1,0,none⟩) (v:=.agg #[.int .i64 0,.int .i64 0,.slice none 0 0]) rfl (by rfl) (Zac (T:=35) (cs:=[.int .i64 0,.int .i64 0,.slice none 0 0]) (by kernel_rfl) (by kernel_rfl) ?_);exact ZG (ZG (ZG (R1) _ rfl) _ rfl) _ rfl
         ·unfold Zev;rw[aG.out]
         ·first|go_grown|(repeat' (first|exact aX|refine ZwK ?_ (by dsimp only;omega) _))
        ·go_wp2;go_roundw;case rel=>exact⟨k+1,by omega,by go_num,bF.out,dE,(fun j hj=>by
          by_cases gG:j=k;·rw[gG,cX.out];exact dR
          ·exact Zxe.2 (dO.out j (by omega))),bP⟩
         case measure=>simp[intOf]<;>omega
       ·obtain rfl:np=k:=by omega
        have bA:=cA.out;rw[ZoN (fun j hj=>dO.out j (by rw[aD.out]at hj;exact hj)),if_pos rfl]at bA;have fQ:0<gcdL 0 (den::lev::W):=Zeg den (by simp) (by omega);have bS:=(Zc5 (den::lev::W) 0).2;have cF:=Zxi fun A c w' hA=>ZhL A (den::lev::W) c w' hA (by simp only[Zyd];rw[aF.out];have:=J.out;omega) (by
         intro x hx;rcases Zyx.1 hx with rfl|hx;·exact Zzb dI (by decide)
         ·rcases Zyx.1 hx with rfl|hx;·rw[<-aW.out];exact Zzb (bY.out.get 0) (by decide)
          ·exact Zzb (cH.out x hx) (by decide));have cV:(den::lev::W).length=2+d:=by simp only[Zyd];rw[aF.out];omega
        rw[cV]at cF;obtain⟨gI,eM⟩:∃gI:Int,((gcdL 0 (den::lev::W):Nat):Int)=gI:=⟨_,rfl⟩;rw[eM]at bA bS cF;have dJ:0<gI:=by omega
        have gC:¬gI=0:=by omega
        have hL:(gI==0)=false:=by simpa using gC
        have cN:IntKind.i64.wrap (den.tdiv gI)=den / gI:=ZdK dJ (bS den (by simp)) dI (by decide);have fD:IntKind.i64.wrap (lev.tdiv gI)=lev / gI:=ZdK dJ (bS lev (by simp)) (by rw[<-aW.out];exact bY.out.get 0) (by decide);have gM:=Zxi fun j (hj:j<d)=>(ZdK dJ (bS (W.getD j 0) (by
         have cI:j<W.length:=by rw[aF.out];exact hj
         rw[ZxS,ZxX cI];exact Zyy _ (Zyy _ (Zya cI)))) (cH.out.get j) (by decide):IntKind.i64.wrap ((W.getD j 0).tdiv gI)=W.getD j 0 / gI);have cD:=Zxi bA;have bX:=Zxi fun(x:World)=>(⟨rfl,.inr ⟨x.heap.size,2,#[.int .i64 den,.int .i64 lev],rfl,Zza _,ZA _ _ rfl,Zza _,by decide,rfl,rfl⟩⟩:(x.alloc (.cells #[.int .i64 den,.int .i64 lev] 3 (0,0))).ownsRow x.heap.size 3 1 (.slice (some ⟨x.heap.size,0,none⟩) 2 2) 2 [.int .i64 den,.int .i64 lev]);clear bA bS fQ eM cV cA dO aV cE bB;go_wp2_with (at_builtin;refine wpList_append_own _ rfl _ _ 31 rfl wr.heap.size 3 i0 (.int .i64 0) 1 8 underlying31 hi dV dW dX rfl (by decide) _ _ _ rfl (bX.out wr) ⟨R,0,none⟩ d d (W.map (Value.int .i64)) rfl ?c0 ?c1 ?c2 ?c3 ?c4 ?c5 ?_);case c0=>rw[Zyf,aF.out,Zzn]
        case c1=>
         intro j u N;rw[Zx1]at N;obtain⟨y,hy,rfl⟩:=ZzC.1 N;have:=(H.out.alloc (.cells #[.int .i64 den,.int .i64 lev] 3 (0,0))).load hy;have e:Addr.add ⟨R,0,none⟩ j=⟨R,j,none⟩:=by unfold Addr.add;split<;>simp_all
         rw[e];exact this
        case c2=>intro u N;obtain⟨y,-,rfl⟩:=ZyC.1 N;rfl
        case c3=>have:=J.out;unfold maxLen;omega
        case c4=>have:=J.out;omega
        case c5=>simp
        intro v4 w4 I aQ _;obtain⟨A4,c4,rfl⟩:=Z6 I;have aP:Below wr.heap.size wr w4:=Z3 (ZC wr _) aQ fun b e=>by cases e;exact Zza _
        have cP:=Zxi (show At 1 Zc w4 A4 (den::lev::W)from ZaE (l:=den::lev::W) I);have eB:=Zxi (H.out.below aP);have eE:=Zw aP aA;have R4:=Zw aP P1;have cQ:=via K aP;clear I aQ aP H aA P0 P1 D K aC;go_wp2_with (go_at_call 92;refine(cF.out _ _ _ cP.out).mono ?_;rintro e w5 ⟨rfl,bN⟩);have dD:=Zxi (eB.out.below bN);have eF:=Zw bN eE;have R5:=Zw bN R4;have cR:=via cQ bN;clear eB eE R4 cQ bN cP cF bX;apply Zpo w2 1 5 9 11 Q (.int .i64 den) (.int .i64 lev) (fun a b=>.cells #[.int .i64 (if a then den / gI else den),.int .i64 (if b then lev / gI else lev),.slice (some ⟨R,0,none⟩) d d] 35 (0,0));case hm=>kernel_rfl
        case hB=>kernel_rfl
        case hB'=>intro g;kernel_rfl
        case hS=>kernel_rfl
        case hN=>kernel_rfl
        case hne=>decide
        case hkd=>kernel_rfl
        case hw=>exact cR
        case hb=>exact dZ
        case hb0=>exact eF
        case hcl=>
         intro L hc;refine⟨⟨fun h=>?_,fun h=>?_⟩,fun o U h=>?_,fun o U h=>?_⟩;·have h2:=hc 9 _ rfl h;simp[Region.binds]at h2;exact⟨by simp[h2],by simp[h2]⟩
         ·have h2:=hc 11 _ rfl h;simp[Region.binds]at h2;exact⟨by simp[h2],by simp[h2]⟩
         ·simp at U;subst U;simp[Region.binds]at h;exact⟨by simp[h],by simp[h]⟩
         ·simp at U;subst U;simp[Region.binds]at h;exact⟨by simp[h],by simp[h]⟩
        case hq=>
         intro g u N bT bG fX;dsimp only[mixL,yieldsC,Zxu,Zxx];simp only[mixL,yieldsC,Zxu,Zxx,Nat.reduceAdd,Nat.reduceBEq,Zzw,ZwV,ZwX,ZwQ,ZwY,ZwP,if_true,if_false,ZwW,Nat.reduceEqDiff];repeat (go_big_quiet_step (fail))
         exact wpQuiet_nil rfl
        case hp=>intro o U g x hx;simp only[ZxV,ZxW,ZzF]at U;subst U;have D:=bk3 hx;exact ZkV (b:=Q) (off:=0) rfl (by kernel_rfl) (by kernel_rfl) (by simpa using D.1)
        case hqq=>intro o U g x hx;simp only[ZxV,ZxW,ZzF]at U;subst U;have D:=bk3 hx;exact ZkV (b:=Q) (off:=1) rfl (by kernel_rfl) (by kernel_rfl) (by simpa using D.2.1)
        case hind=>intro j hj;simp only[Zyx,ZyN,or_false]at hj;rcases hj with rfl|rfl|rfl|rfl<;>(intro g h;kernel_rfl)
        case hs1=>intro o U f g x hx;simp only[ZxV,ZxW,ZzF]at U;subst U;have D:=bk3 hx;exact⟨_,Zib (n:=den / gI) rfl (by kernel_rfl) (by kernel_rfl) (by kernel_rfl) D.1 (by simp[D]),(OnlyB.refl _ _).set _ _,ZG hx _ rfl⟩
        case hs2=>intro o U f g x hx;simp only[ZxV,ZxW,ZzF]at U;subst U;have D:=bk3 hx;exact⟨_,Zib (n:=lev / gI) rfl (by kernel_rfl) (by kernel_rfl) (by kernel_rfl) D.2.1 (by simp[D]),(OnlyB.refl _ _).set _ _,ZG hx _ rfl⟩
        intro g x hg cS bL;simp only[if_true]at bL;have eC:=Zxi (show ZJ 3 x R W from(hg.block R dD.out.size (by simpa using aY)).trans dD.out);have R6:=ZaM hg R5 (by have:=ZI N1;simp;omega);have dH:=cN;obtain⟨d2,dH⟩:∃d2,den / gI=d2:=⟨_,rfl⟩;obtain⟨l2,eO⟩:∃l2,lev / gI=l2:=⟨_,rfl⟩;rw[dH,eO]at bL cD;clear hg dD eF R5 cR cN fD dH eO g;have D:=bk3 bL;go_wp2;go_loopw [151] (fun i wr=>∃k:Nat,k<=d/\i=.int .i64 k/\Hid (ZJ 3 wr R ((W.take k).map (· / gI)++W.drop k))/\wr.heap[Q]?=some (.cells #[.int .i64 d2,.int .i64 l2,.slice (some ⟨R,0,none⟩) d d] 35 (0,0))/\Below w2.heap.size w2 wr)(fun i _=>d-(intOf i).toNat);case atStart=>exact⟨0,Zzx _,rfl,Zxi (by simpa using eC.out),bL,cS⟩
        case round=>
         clear eC bL cS D R6;obtain⟨k,hk,rfl,bD,dF,bQ⟩:=hrel;have D:=bk3 dF;have eW:=bD.out.size;have eV:=ZI dF;by_cases aV:k<d
         ·have eN:(k:Int)<(d:Int):=by omega
          have dM:k<W.length:=by rw[aF.out];exact aV
          have ci:=bD.out.load (Zkq (g:=gI) dM);have fi:=bD.out.frozen k;have bE:=Zxi (bD.out.store k (W.getD k 0 / gI));rw[Zkp dM]at bE;have gO:=gM.out k aV;have gR:d<=8:=by have:=J.out;omega
          obtain⟨y,hy⟩:∃y,W.getD k 0=y:=⟨_,rfl⟩;rw[hy]at ci gO bE;clear hy dM;go_wp2;go_roundw;case rel=>
           refine⟨k+1,by omega,by go_num,bE.out,ZB dF ?_ _,bQ.setCell ?_ _⟩;·exact fun e=>aY e.symm
           ·exact dB
          case measure=>simp[intOf]<;>omega
         ·obtain rfl:d=k:=by omega
          have P1:=Zw bQ N1;have bE:=bD.out;rw[show W.take d=W by rw[<-aF.out,ZyW],show W.drop d=[]by rw[<-aF.out,List.drop_length],Zxq]at bE;have eJ:=via O bQ;have C1:=bk3 P1;have dG:R≠w.heap.size+1:=by have:=ZI N1;omega
          clear bD;go_wp2;refine bodyPost_ret (v:=.tuple #[.agg #[.int .i64 d2,.int .i64 l2,.slice (some ⟨R,0,none⟩) d d],.bool true]) ?_ rfl ⟨?_,?_⟩;·refine ZaB (p:=4) (u:=5) (ad:=⟨w.heap.size+1,0,none⟩) (v:=.agg #[.int .i64 d2,.int .i64 l2,.slice (some ⟨R,0,none⟩) d d]) rfl (by rfl) (Zac (T:=35) (cs:=[.int .i64 d2,.int .i64 l2,.slice (some ⟨R,0,none⟩) d d]) (by kernel_rfl) (by kernel_rfl) ?_);exact ZG (ZG (ZG P1 _ rfl) _ rfl) _ rfl
          ·unfold Zev;rw[cD.out];exact⟨_,_,rfl,Zko (((bE.other _ _ (fun e=>dG e.symm)).other _ _ (fun e=>dG e.symm)).other _ _ (fun e=>dG e.symm)) (by simp[aF.out]) (by have:=J.out;omega) (Zzb O.size dB)⟩
          ·exact((eJ.setCell (by dsimp only;omega) _).setCell (by dsimp only;omega) _).setCell (by dsimp only;omega) _
variable {w:World} {base n c g:Nat} {e:TypeId} {xs:List Value}
theorem ZpA(h:w.ownsRow base e 1 (.slice (some ⟨g,0,none⟩) n c) n xs) {k:Nat} (G:k<n)(v:Value):(w.setCell ⟨g,k,none⟩ v).ownsRow base e 1 (.slice (some ⟨g,0,none⟩) n c) n (xs.set k v):=by
 obtain⟨s,i⟩:=h;refine⟨by simpa using s,?_⟩;rcases i with⟨i,-⟩|⟨E,r,f,t,u,y,z,D,m,o⟩;·cases i
 ·cases t;refine .inr ⟨g,c,f.setIfInBounds k v,rfl,u,?_,z,D,by simpa using m,?_⟩;·simp only[World.setCell];rw[Zwp,if_pos rfl,y];simp
  ·rw[Zzn]at o |-;rw[<-o];apply ZxI;intro j;rw[Zx7,Zww,Zwt,Zx5,Zx7,Zyj,Array.length_toList,m];by_cases p:j<n
   ·simp only[p,if_true];by_cases d:k=j;·subst d;rw[if_pos rfl,if_pos rfl,if_pos (by omega),if_pos (by omega)]
    ·rw[if_neg d,if_neg d,Zww]
   ·simp only[p,if_false];rw[if_neg (by omega)]
theorem ZpB(h:w.ownsRow base e 1 (.slice (some ⟨g,0,none⟩) n c) n xs)(k:Nat):w.frozen? ⟨g,k,none⟩=false:=by
 rcases h.2 with⟨i,-⟩|⟨p,d,f,m,r,o,s,t,u,y⟩;·cases i
 ·cases m;unfold World.frozen?;rw[o];simp
theorem ZpC(X:ByteArray)(p s:Option Addr)(f l:List Int)(t H np:Nat)(o den:Int)(w:World)(J:At 1 Zc w p f)(L:At 1 Zc w s l)(i:f.length=np)(Q:l.length=np)(Y:np<=8)(S:ZM 20 f)(D:o.natAbs<=20)(sl:ZM 10000000000000000 l)(m:den.natAbs<=10000000000000000):Calls prog 115 #[.agg #[.string X,.slice p np t,.int .i64 o],.agg #[.int .i64 den,.slice s np H]] w fun e I=>e=.returned (.bool (decide (dotL f l<=o*den)))/\Below w.heap.size w I:=by
 have K:=Zxi fun W (N:Below w.heap.size w W)=>(by have:=ZhK p s f l t H W (J.below N) (L.below N) (by omega) (by omega) 20 10000000000000000 (by decide) S sl;rw[i,Q]at this;exact this:Calls prog 52 #[.slice p np t,.slice s np H] W fun e I=>e=.returned (.int .i64 (dotL f l))/\W=I);have R:=Zaj D m;obtain⟨y,r⟩:∃y,o*den=y:=⟨_,rfl⟩;rw[r]at R;have V:IntKind.i64.wrap (o*den)=y:=by rw[r];exact Zxg _ (by omega)
 rw[r];obtain⟨d,O⟩:∃d,dotL f l=d:=⟨_,rfl⟩;rw[O]at K |-;clear r O R J L i Q S sl;go_enter func115,ntmps115;go_wp2;obtain⟨U,Z⟩:∃U,U=w:=⟨_,rfl⟩;refine Zbc w (by kernel_rfl) (by kernel_rfl) (by go_grown) ?_;intro z h;repeat (go_big_quiet_step ((go_at_call 52;with_reducible exact Zd (K.out _ (h.out _)))))
 refine wpQuiet_nil ?_;intro wb u G E;clear z h;go_wp2;go_ret;exact⟨rfl,by assumption⟩
variable {n k np:Nat} {es:List En} {l:List Int} {den:Int}
theorem ZpD(h:k<n):(List.replicate k (1:Int)++List.replicate (n-k) 0).set k 1=List.replicate (k+1) 1++List.replicate (n-(k+1)) 0:=by obtain⟨r,d⟩:∃r,n-k=r+1:=⟨n-k-1,by omega⟩;rw[d,show n-(k+1)=r by omega,ZyS _ _ (by simp),Zyi,Nat.sub_self,ZyQ,List.replicate_succ' (n:=k)];simp
theorem Zk6{i:Nat} (h:i<n):(List.replicate n (0:Int)).set i 1=ZaA n i:=by
 apply ZxI;intro j;rw[Zx5];unfold ZaA;rw[Zx1];by_cases f:j<n
 ·rw[Zx3 f];by_cases d:i=j;·subst d;simp[h]
  ·have:¬j=i:=fun e=>d e.symm;simp[d,this,Zx4,f]
 ·rw[ZxY (by simp;omega)];have:i≠j:=by omega
  simp[this,f]
theorem Zij(h:RightE es np)(z t:List Nat):Zch (Zai np (exs es) z t):=by
 intro s m;simp only[Zai,Zyx,Zyu,ZyC]at m;rcases m with rfl|⟨i,-,rfl⟩|⟨i,-,rfl⟩;·intro x d;rw[ZxF d];decide
 ·intro x d;obtain⟨j,-,rfl⟩:=ZyC.1 d;split<;>decide
 ·intro x d;have r:=Zge h i;have f:((exs es).getD i default).2.natAbs<=20:=by rw[ZxS];cases p:(exs es)[i]? with|none=>simp[default,instInhabitedProd]|some x=>exact h.exs_mo x (ZyD p)
  rcases Zyu.1 d with d|d;·obtain⟨c,o⟩:=ZyB.1 d;have:=r c;rw[ZxS,o]at this;exact Zzb this (by decide)
  ·rw[ZyH]at d;subst d;exact Zzb f (by decide)
theorem Zik(np:Nat)(es:List Ex)(z t:List Nat):(Zai np es z t).length=z.length+t.length+1:=by simp[Zai]
theorem ZpE(h:RightE es np) {z t:List Nat} (o:∀i∈t,i<es.length):∀row∈Zai np (exs es) z t,row.length=np+1:=by
 intro row f;simp only[Zai,Zyx,Zyu,ZyC]at f;rcases f with rfl|⟨i,-,rfl⟩|⟨i,m,rfl⟩;·simp
 ·simp[ZaA]
 ·have d:=o i m;rw[Zyc,Zc6 (ZxX d),(h.co _ (Zya d)).1];rfl
theorem ZpF(d:k<l.length)(h:l.getD k 0<0):l.any (·<0)=true:=by rw[Zxo];refine⟨l[k],Zya d,?_⟩;rw[ZxS,ZxX d]at h;simpa using h
theorem ZpG(h:∀k,k<l.length->¬l.getD k 0<0):l.any (·<0)=false:=by rw[Zxn];intro x f;obtain⟨k,d,rfl⟩:=Zyb f;have:=h k d;rw[ZxS,ZxX d]at this;simpa using this
theorem ZpH{es:List Ex} (d:k<es.length)(h:¬dotL (es.getD k default).1 l<=(es.getD k default).2*den):es.any (fun x=>!decide (dotL x.1 l<=x.2*den))=true:=by rw[Zxo];refine⟨es[k],Zya d,?_⟩;rw[ZxS,ZxX d]at h;simpa using h
theorem ZpI{es:List Ex} (h:∀k,k<es.length->dotL (es.getD k default).1 l<=(es.getD k default).2*den):es.any (fun x=>!decide (dotL x.1 l<=x.2*den))=false:=by rw[Zxn];intro x f;obtain⟨k,d,rfl⟩:=Zyb f;have:=h k d;rw[ZxS,ZxX d]at this;simpa using this
theorem RowsOwn.one{W:World} {base B:Nat} (h:ZJ 3 W B l)(hb:base<=B)(i:l.length=n):RowsOwn (W.alloc (.cells #[.slice (some ⟨B,0,none⟩) n n] 31 (0,0))) base (.slice (some ⟨W.heap.size,0,none⟩) 1 1) [⟨some ⟨B,0,none⟩,n,l⟩]:=by
 have m:=h.size;refine⟨⟨rfl,.inr ⟨W.heap.size,1,_,rfl,by omega,ZA _ _ rfl,Zza _,by decide,rfl,?_⟩⟩,fun x d=>?_⟩;·simp[i]
 ·rw[ZyH]at d;subst d;refine⟨(h.alloc _).at',fun g f=>?_⟩;cases f;refine⟨hb,by simp;omega,fun e=>?_⟩;cases e;exact Zzd _ m
def Zew(q:Option (List Int×Int))(np f:Nat)(e:Ending)(w':World):Prop:=match q with|none=>e=.returned (.tuple #[.agg #[.int .i64 0,.slice none 0 0],.bool false])|some (m,d)=>∃A c,e=.returned (.tuple #[.agg #[.int .i64 d,.slice A np c],.bool true])/\w'.ownsRow f 3 1 (.slice A np c) np (m.map (Value.int .i64))
theorem ZpJ(pA eA zA tA:Option Addr)(np pc en ec zn zc tn tc:Nat)(es:List En)(z t:List Nat)(w:World)(hR:RightE es np)(hE:Zat w eA es)(eH:es.length=en)(hZ:At 1 Zc w zA (ZZ z))(eV:z.length=zn)(hT:At 1 Zc w tA (ZZ t))(eS:t.length=tn)(h5:np<=5)(hz:∀i∈z,i<np)(ht:∀i∈t,i<en)(eW:z.length+t.length+1=np):Calls prog 91 #[.agg (ZW (.slice pA np pc) (.slice eA en ec) (.slice zA zn zc) (.slice tA tn tc) z t).toArray] w fun e w'=>Zew (ZaY np (exs es) z t) np w.heap.size e w'/\Below w.heap.size w w':=by
 obtain⟨BA,bP⟩:∃BA,(ZW (.slice pA np pc) (.slice eA en ec) (.slice zA zn zc) (.slice tA tn tc) z t).toArray=BA:=⟨_,rfl⟩;have fY:=hR.n8;have fZ:=Zxi fun W (hb:Below w.heap.size w W) k (hk:k<zn)=>Zan (hZ.below hb) (k:=k) (by rw[Zep];omega);have fT:=Zxi fun W (hb:Below w.heap.size w W) k (hk:k<tn)=>Zan (hT.below hb) (k:=k) (by rw[Zep];omega);have fE:=Zxi fun W (hb:Below w.heap.size w W) i (hi:i<en)=>(by
  have bW:i<es.length:=by omega
  obtain⟨b,o,hA,fD,dB⟩:=(hE.below hb).1 i _ (ZxX bW);have hx:=Zya bW;obtain⟨R,h2,h3⟩:=hR.co _ hx;refine⟨es[i],b,o,hA,fD,R,h2,h3,?_,?_,dB 2 _ rfl,(hE.below hb).2 _ hx,Zc6 (ZxX bW),ZxX bW⟩;·simpa using dB 0 _ rfl
  ·have:=dB 1 _ rfl;rw[R]at this;exact this:∃x:En,∃b o,eA=some ⟨b,o,none⟩/\b<W.heap.size/\x.co.length=np/\ZM 20 x.co/\x.mo.natAbs<=20/\W.cell? ⟨b,o+i*3,none⟩=some (.string x.nm)/\W.cell? ⟨b,o+i*3+1,none⟩=some (.slice x.A np x.c)/\W.cell? ⟨b,o+i*3+2,none⟩=some (.int .i64 x.mo)/\At 1 Zc W x.A x.co/\(exs es).getD i default=(x.co,x.mo)/\es[i]?=some x);have dF:=Zcg (np+1) (by omega);obtain⟨m,bS⟩:∃m,np+1=m:=⟨_,rfl⟩;rw[bS]at dF;have dJ:IntKind.i64.wrap ((np:Int)+1)=(m:Int):=by rw[<-bS];exact Zxg _ (by omega)
 have gB:m<=6:=by omega
 have cF:=Zxi bS;have cX:=Zxi hR;have aZ:=Zxi eH;have aN:=Zxi eV;have bI:=Zxi eS;have fL:=Zxi hz;have eR:=Zxi ht;have aO:=Zxi eW;have dN:=Zxi bP;have gP:zn<=4:=by omega
 have fQ:en<=8:=by omega
 have gO:tn<=4:=by omega
 rw[bP];obtain⟨i0,hi,dK,dL,dM⟩:=info_parts info3;obtain⟨i1,hj,eK,eL,bB⟩:=info_parts info31;obtain⟨X,hX⟩:∃X,exs es=X:=⟨_,rfl⟩;have aU:=Zxi hX;rw[hX]at fE |-;have gA:0<m:=by omega
 have eB:BA[0]?=some (.slice pA np pc):=by rw[<-bP];rfl
 clear hR hE eH eV eS hz ht eW bP hZ hT hX bS;have c0:=Zxi fun(W:World)(h:W.heap[w.heap.size]?=some (.cells BA 140 (0,0)))=>(by
  have NB:W.heap[w.heap.size]?=some (.cells (ZW (.slice pA np pc) (.slice eA en ec) (.slice zA zn zc) (.slice tA tn tc) z t).toArray 140 (0,0)):=by rw[dN.out];exact h
  exact⟨Zaq NB (k:=0) rfl,Zaq NB (k:=1) rfl,Zaq NB (k:=2) rfl,Zaq NB (k:=3) rfl,ZI h⟩:W.cell? ⟨w.heap.size,0,none⟩=some (.slice pA np pc)/\W.cell? ⟨w.heap.size,1,none⟩=some (.slice eA en ec)/\W.cell? ⟨w.heap.size,2,none⟩=some (.slice zA zn zc)/\W.cell? ⟨w.heap.size,3,none⟩=some (.slice tA tn tc)/\w.heap.size<W.heap.size);go_enter func91,ntmps91;go_wp2;clear eB;go_loopw [33] (fun i wr=>∃k:Nat,k<=m/\i=.int .i64 k/\Hid (ZJ 3 wr (w.heap.size+2) (List.replicate k 1++List.replicate (m-k) 0))/\wr.heap[w.heap.size]?=some (.cells BA 140 (0,0))/\wr.heap[w.heap.size+1]?=some (.cells #[.int .i64 0,.slice none 0 0] 33 (0,0))/\Below w.heap.size w wr) (fun i _=>m-(intOf i).toNat);case atStart=>
  refine⟨0,Zzx _,rfl,?_,?_,?_,?_⟩;·have:=ZJ.new (T:=3) ((w.alloc (.cells BA 140 (0,0))).alloc (.cells #[.int .i64 0,.slice none 0 0] 33 (0,0))) (List.replicate m 0);simp only[World.size_alloc]at this;exact Zxi (by simpa using this)
  ·(repeat (first|assumption|(refine ZA _ _ ?_;(simp;done))|refine ZD ?_|refine Zz ?_ _|refine ZB ?_ (by simp<;>omega) _))
  ·(repeat (first|assumption|(refine ZA _ _ ?_;(simp;done))|refine ZD ?_|refine Zz ?_ _|refine ZB ?_ (by simp<;>omega) _))
  ·go_grown
 case round=>
  obtain⟨k,hk,rfl,hI,M0,M1,E⟩:=hrel;have fF:=hI.out.size;by_cases s:k<m
  ·have bD:(k:Int)<(m:Int):=by omega
   have ci:=hI.out.loadD (k:=k) (by simp;omega);have fi:=hI.out.frozen k;have aQ:=Zxi (hI.out.store k 1);rw[ZpD s]at aQ;clear dF;go_wp2;go_roundw;case rel=>exact⟨k+1,by omega,by go_num,aQ.out,ZB M0 (by dsimp only;omega) _,ZB M1 (by dsimp only;omega) _,E.setCell (by dsimp only;omega) _⟩
   case measure=>simp[intOf]<;>omega
  ·obtain rfl:m=k:=by omega
   have dQ:=Zxi (show ZJ 3 wr (w.heap.size+2) (List.replicate m 1)by simpa using hI.out);obtain⟨d0,d1,d2,d3,d4⟩:=c0.out _ M0;clear hI s;go_wp2;clear d0 d1 d2 d3 d4;go_loopw [7,45] (fun v7 i wr=>∃(k:Nat)(xs:List IR),k<=zn/\i=.int .i64 k/\Hid (RowsOwn wr (w.heap.size+2) v7 xs/\xs.map IR.l=List.replicate m 1::(z.take k).map (ZaA m))/\wr.heap[w.heap.size]?=some (.cells BA 140 (0,0))/\wr.heap[w.heap.size+1]?=some (.cells #[.int .i64 0,.slice none 0 0] 33 (0,0))/\Below w.heap.size w wr)(fun _ i _=>zn-(intOf i).toNat);case atStart=>exact⟨0,_,Zzx _,rfl,Zxi ⟨RowsOwn.one dQ.out (Zza _) (by simp),by simp⟩,Zz M0 _,Zz M1 _,via E (ZC _ _)⟩
   case round=>
    clear dQ M0 M1 E fF;obtain⟨k,xs,hk,rfl,f,M0,M1,E⟩:=hrel;have s0:=ZI M0;have s1:=ZI M1;by_cases s:k<zn
    ·have bD:(k:Int)<(zn:Int):=by omega
     obtain⟨bz,oz,rfl,gF,cz⟩:=fZ.out wr E k s;obtain⟨i,Z⟩:∃i,z[k]?=some i:=⟨_,ZxX (by rw[aN.out];exact s)⟩;have bA:(ZZ z).getD k 0=(i:Int):=by rw[ZxS,Zcw Z];rfl
     rw[bA]at cz;have dC:=fL.out i (ZyD Z);have fC:(i:Int)<(m:Int):=by have:=cF.out;omega
     have bZ:=Zxi (show (z.take (k+1)).map (ZaA m)=(z.take k).map (ZaA m)++[ZaA m i]by rw[ZyV,Z];simp);have cD:=Zxi (show xs.length=k+1 by have R:=congrArg List.length f.out.2;rw[Zyf]at R;simp only[Zyd,Zyf,Zyj]at R;rw[aN.out]at R;omega);have bR:=Zxi (ZJ.new (T:=3) wr (List.replicate m 0));have ci:=bR.out.loadD (k:=i) (by simp;omega);have fi:=bR.out.frozen i;have aQ:=Zxi (bR.out.store i 1);rw[Zk6 (by omega)]at aQ;obtain⟨A7,c7,rfl⟩:=Z6 f.out.1.own;have U:Below wr.heap.size wr (wr.alloc (.cells ((Zax (List.replicate m 0)).setIfInBounds i (.int .i64 1)) 3 (0,0))):=ZC wr _;have aQ:=Zxi (show ZJ 3 (wr.alloc (.cells ((Zax (List.replicate m 0)).setIfInBounds i (.int .i64 1)) 3 (0,0))) wr.heap.size (ZaA m i)by rw[Zhz,Zk6 (by omega)];exact ZJ.new wr _);have S:=Zxi (f.out.1.below U);have bG:=Zxi f.out.2;have eQ:=Zxi (show some wr.heap.size≠(Value.slice A7 xs.length c7).ownBlock from fun e=>Zzd _ (f.out.1.own.lt _ e.symm).2);have Q0:=Zxi (Zw U M0);have Q1:=Zxi (Zw U M1);have aF:=Zxi (via E U);clear bA Z bR f E U M0 M1;go_wp2_with (at_builtin;refine wpList_append_lies _ rfl _ _ 160 rfl (w.heap.size+2) 31 i1 (.slice none 0 0) 1 24 underlying160 hj eK eL bB rfl (by decide) _ _ _ rfl (S.out.own.alloc _) ⟨wr.heap.size+1,0,none⟩ 1 1 [.slice (some ⟨wr.heap.size,0,none⟩) m m] rfl rfl ?c1 ?c2 (by decide) ?c3 ?c4 ?c5 (wr.heap.size+1+1) ?c6 ?_);case c1=>exact Zbp _ [.slice (some ⟨wr.heap.size,0,none⟩) m m] _ (by simp)
     case c2=>intro u hu;simp at hu;subst hu;rfl
     case c3=>have:=cD.out;unfold maxLen;omega
     case c4=>have:=cD.out;omega
     case c5=>have:=aF.out.size;simp at this;simp;omega
     case c6=>simp
     intro g fX w4 I aG cN fS;have dZ:=Zxi (RowsOwn.push (x:=⟨some ⟨wr.heap.size,0,none⟩,m,ZaA m i⟩) S.out (ZC _ _) rfl ((aQ.out.at').below (ZC _ _)) (by dsimp only;omega) (by simp;omega) eQ.out aG (by show w4.ownsRow _ 31 1 _ _ (_++[Value.slice (some ⟨wr.heap.size,0,none⟩) (ZaA m i).length m]);rw[show (ZaA m i).length=m by simp[ZaA]];exact I) (by simpa using cN));have eC:Below w.heap.size w w4:=Z3 (via aF.out (ZC _ _)) aG fun b e=>by have:=(S.out.own.lt b e).1;omega
     have R0:=ZaM aG (Zz Q0.out _) (ZaL S.out.own (by omega));have R1:=ZaM aG (Zz Q1.out _) (ZaL S.out.own (by omega));have K:=Zxi (show (xs++[(⟨some ⟨wr.heap.size,0,none⟩,m,ZaA m i⟩:IR)]).map IR.l=List.replicate m 1::(z.take (k+1)).map (ZaA m)from by rw[Zyn,bG.out,bZ.out];rfl);clear I aG cN S bG Q0 Q1;go_wp2;go_roundw;case rel=>exact⟨k+1,_,by omega,by go_num,⟨dZ.out,K.out⟩,R0,R1,eC⟩
     case measure=>simp[intOf]<;>omega
    ·obtain rfl:zn=k:=by omega
     have aC:z.take zn=z:=by rw[<-aN.out,ZyW]
     rw[aC]at f;obtain⟨d0,d1,d2,d3,d4⟩:=c0.out _ M0;clear s dF dJ aC;go_wp2;clear d0 d1 d2 d3 d4;go_loopw [7,63] (fun v7 i wr=>∃(k:Nat)(xs:List IR),k<=tn/\i=.int .i64 k/\Hid (RowsOwn wr (w.heap.size+2) v7 xs/\xs.map IR.l=List.replicate m 1::(z.map (ZaA m)++(t.take k).map fun i=>(X.getD i default).1++[(X.getD i default).2]))/\wr.heap[w.heap.size]?=some (.cells BA 140 (0,0))/\wr.heap[w.heap.size+1]?=some (.cells #[.int .i64 0,.slice none 0 0] 33 (0,0))/\Below w.heap.size w wr)(fun _ i _=>tn-(intOf i).toNat);case atStart=>exact⟨0,xs,Zzx _,rfl,Zxi ⟨f.out.1,by rw[f.out.2];simp⟩,M0,M1,E⟩
     case round=>
      clear f M0 M1 E s0 s1;obtain⟨k,xs,hk,rfl,f,M0,M1,E⟩:=hrel;have s0:=ZI M0;have s1:=ZI M1;by_cases s:k<tn
      ·have bD:(k:Int)<(tn:Int):=by omega
       obtain⟨bt,ot,rfl,gD,ct⟩:=fT.out wr E k s;obtain⟨i,Z⟩:∃i,t[k]?=some i:=⟨_,ZxX (by rw[bI.out];exact s)⟩;have bA:(ZZ t).getD k 0=(i:Int):=by rw[ZxS,Zcw Z];rfl
       rw[bA]at ct;have dC:=eR.out i (ZyD Z);have fC:(i:Int)<(en:Int):=by omega
       obtain⟨x,be,oe,rfl,eZ,aB,cE,cC,e0,e1,e2,bJ,bL,bK⟩:=fE.out wr E i dC;have bZ:=Zxi (show (t.take (k+1)).map (fun i=>(X.getD i default).1++[(X.getD i default).2])=(t.take k).map (fun i=>(X.getD i default).1++[(X.getD i default).2])++[x.co++[x.mo]]by rw[ZyV,Z,Zyn,Option.toList_some,Zyp,Zyr,bL]);have cD:=Zxi (show xs.length<=20 by have R:=congrArg List.length f.out.2;rw[Zyf]at R;simp only[Zyd,Zyc,Zyf,Zyj]at R;rw[aN.out,bI.out]at R;omega);obtain⟨d0,d1,d2,d3,d4⟩:=c0.out _ M0;obtain⟨A7,c7,rfl⟩:=Z6 f.out.1.own;have bG:=Zxi f.out.2;have S:=Zxi f.out.1;have cP:=Zxi bJ;have bM:=Zxi aB;clear bA Z f aB cE cC bJ bL;have bK:=Zxi bK;have fK:0<np:=by have:=aO.out;omega
       go_wp2;refine Zbf ?_;intro W6 cY;have aS:Below wr.heap.size wr W6:=by rw[cY];exact ZC _ _
       have H6:W6.heap[wr.heap.size]?=some (.cells #[.string x.nm,.slice x.A np x.c,.int .i64 x.mo] 71 (0,0)):=by rw[cY];exact ZA _ _ rfl
       have aT:=Zxi (S.out.below aS);have Q0:=Zw aS M0;have Q1:=Zw aS M1;have Y:=via E aS;have fG:wr.heap.size<W6.heap.size:=ZI H6;have cA:=Zxi (show ∀r,(Value.slice A7 xs.length c7).ownBlock=some r->w.heap.size+2<=r/\r<wr.heap.size from fun r e=>S.out.own.lt r e);have fW:=Zxi (cP.out.below aS);have eM:=Zxi fun(u:World)(hu:Za8 w W6 (.slice A7 xs.length c7) u)=>(hu.2.2 _ fG (fun e=>Zzd _ (cA.out _ e.symm).2)).trans H6;have cQ:=Zxi fun(u:World)(hu:Za8 w W6 (.slice A7 xs.length c7) u)=>(by obtain⟨x',b',o',e1,-,e2,-,-,-,-,-,e3,-,e4⟩:=fE.out u hu.1 i dC;have cR:=bK.out;rw[e4]at cR;cases cR;exact e3:At 1 Zc u x.A x.co);clear cY aS S M0 M1 E cP d0 d1 d2 d3 d4 e0 e1 e2 ct;refine Zpm 11 _ (by kernel_rfl) rfl rfl (by kernel_rfl) (by kernel_rfl) (by kernel_rfl) (by kernel_rfl) ?_;simp only[ZyY,Zy0];apply Zpp w 1 4 7 8 9 10 np xs.length 3 (x.co.map (Value.int .i64)) [.int .i64 x.mo] (.cells #[] 3 (0,0)) (.cells #[.int .i64 x.mo] 3 (0,0)) (fun h=>.cells #[.slice h.a1 (np+1) h.c1] 31 (0,0)) (fun h=>[.slice h.a1 (np+1) h.c1]) (w.heap.size+2) 31 (.slice A7 xs.length c7) (xs.map fun x=>.slice x.A x.l.length x.c);case hB=>kernel_rfl
       case hB'=>intro g;kernel_rfl
       case hS=>kernel_rfl
       case hN=>kernel_rfl
       case hne=>decide
       case hd1=>
        intro L hc;refine⟨fun o H h=>?_,fun o H h=>?_,fun o H h=>?_⟩;·simp at H;subst H;simp[Region.binds]at h;exact⟨by simp[h],by simp[h]⟩
        ·simp at H;subst H;simp[Region.binds]at h;simp[h]
        ·simp at H;subst H;simp[Region.binds]at h;simp[h]
       case hw=>exact Y
       case hv0=>intro r e;have:=(cA.out r e).1;omega
       case hown=>exact aT.out.own
       case hal0=>intro o H g y;simp only[ZxV,ZxW,ZzF]at H;subst H;kernel_rfl
       case hal1=>intro o H g y;simp only[ZxV,ZxW,ZzF]at H;subst H;kernel_rfl
       case hal2=>intro o H g y;simp only[ZxV,ZxW,ZzF]at H;subst H;kernel_rfl
       case hcl=>intro o H g y hy;simp only[ZxV,ZxW,ZzF]at H;subst H;exact Zpq (P:=prog) (A:=x.A) (l:=x.co) (n:=np) (b:=(g 1).b) (c:=x.c) (.tmp 74) (.tmp 76) 31 3 i0 (.int .i64 0) 8 W6.heap.size bM.out (by rfl) (by kernel_rfl) (by kernel_rfl) underlying31 hi dK dL dM (by rfl) (by decide) (cQ.out y hy) (by rw[bM.out];exact fK) (by rw[bM.out];omega) hy.2.1
       case hq=>
        intro g u hu gL gE gC;have D6:=bk3 (eM.out u hu);dsimp only[mixL,yieldsC,Zxu,Zxx];simp only[mixL,mkR6,yieldsC,Zxu,Zxx,Nat.reduceAdd,Nat.reduceBEq,Zzw,ZwV,ZwX,ZwQ,ZwY,ZwP,if_true,if_false,ZwW,Nat.reduceEqDiff];repeat (go_big_quiet_step (fail))
        exact wpQuiet_nil rfl
       case hap1=>intro o H g y hy R h2;simp only[ZxV,ZxW,ZzF]at H;subst H;refine Exists.imp (fun v' h=>Exists.imp (fun x' h=>⟨h.1,h.2.1,h.2.2.1⟩) h) (ZkW (P:=prog) (b:=(g 7).b) (v:=.slice (g 4).a1 np (g 4).c1) (u:=.int .i64 x.mo) (tb:=3) (.tmp 77) (.tmp 80) 31 3 i0 (.int .i64 0) 8 W6.heap.size np (x.co.map (Value.int .i64)) (by rfl) (by kernel_rfl) (by kernel_rfl) underlying31 hi dK dL dM (by rfl) (by decide) R h2 rfl (by omega) hy.2.1)
       case hap2=>intro o H g y hy R h2;simp only[ZxV,ZxW,ZzF]at H;subst H;exact ZkW (P:=prog) (.tmp 73) (.tmp 82) 160 31 i1 (.slice none 0 0) _ 24 _ _ _ _ _ _ rfl (by kernel_rfl) (by kernel_rfl) underlying160 hj eK eL bB rfl (by decide) R h2 rfl (by have:=cD.out;omega) (by have:=Y.size;have:=hy.2.1;omega)
       case hind=>intro j hj;simp only[Zyx,ZyN,or_false]at hj;rcases hj with rfl|rfl|rfl|rfl|rfl|rfl<;>(intro g h;kernel_rfl)
       intro g y hy R h2 h3;have cH:=Zxi (aT.out.row6 (l:=x.co++[x.mo]) (by have:=Y.size;omega) hy (by rw[Zyn];exact R) (by omega) h2 h3);have R0:=(hy.2.2 _ (by omega) (fun e=>by have:=(cA.out _ e.symm).1;omega)).trans Q0;have R1:=(hy.2.2 _ (by omega) (fun e=>by have:=(cA.out _ e.symm).1;omega)).trans Q1;have eD:=hy.1;have K:=Zxi (show (xs++[(⟨(g 8).a1,(g 8).c1,x.co++[x.mo]⟩:IR)]).map IR.l=List.replicate m 1::(z.map (ZaA m)++(t.take (k+1)).map fun i=>(X.getD i default).1++[(X.getD i default).2])from by rw[Zyn,bG.out,bZ.out];simp);obtain⟨A8,hA8⟩:∃A,(g 10).a1=A:=⟨_,rfl⟩;obtain⟨c8,eE⟩:∃c,(g 10).c1=c:=⟨_,rfl⟩;rw[hA8,eE]at cH;rw[hA8,eE];clear hy R h2 h3 bZ bG eM cQ Q0 Q1 aT;dsimp only;go_wp2;go_roundw;case rel=>exact⟨k+1,_,by omega,by go_num,⟨cH.out,K.out⟩,R0,R1,eD⟩
       case measure=>simp[intOf]<;>omega
      ·obtain rfl:tn=k:=by omega
       have aC:t.take tn=t:=by rw[<-bI.out,ZyW]
       obtain⟨dH,K⟩:=f.out;rw[aC]at K;have aJ:xs.map IR.l=Zai np X z t:=by rw[K,<-cF.out];rfl
       have aB:xs.length=np:=by have R:=congrArg List.length aJ;rw[Zyf,Zik]at R;have:=aO.out;omega
       obtain⟨A7,c7,rfl⟩:=Z6 dH.own;have gM:1<=np:=by have:=aO.out;omega
       have hS:=Zxi (ZhT A7 xs c7 wr dH.rowsAt (fun x hx=>by have:=ZpE (z:=z) (t:=t) cX.out (fun i hi=>by rw[aZ.out];exact eR.out i hi) x.l (by rw[aU.out,<-aJ];exact ZyC.2 ⟨x,hx,rfl⟩);omega) (by omega) (by omega) (by rw[aJ,<-aU.out];exact Zij cX.out z t));rw[aJ]at hS;rw[aB]at hS |-;have bY:=Zxi (show (Zai np X z t).length<=5/\Zch (Zai np X z t)/\(Zai np X z t).length=np from⟨by rw[<-aJ,Zyf];omega,by rw[<-aU.out];exact Zij cX.out z t,by rw[<-aJ,Zyf];exact aB⟩);obtain⟨sl,dI⟩:∃sl,ZaK (Zai np X z t)=sl:=⟨_,rfl⟩;have aH:=Zxi dI;unfold ZdJ at hS;rw[dI]at hS;clear dI dH f aC s aB K aJ;rcases sl with _|⟨l,den⟩
       ·dsimp only at hS;have N:=Zxi (show ZaY np X z t=none by unfold ZaY;rw[aH.out]);go_wp2_with (go_at_call 105;refine hS.out.mono ?_;rintro e w2 ⟨rfl,aE⟩;have m:=Zw aE M1;have C1:=bk2 m;have aX:=via E aE);refine bodyPost_ret (v:=.tuple #[.agg #[.int .i64 0,.slice none 0 0],.bool false]) ?_ rfl ⟨?_,?_⟩;·refine ZaB (p:=2) (u:=3) (ad:=⟨w.heap.size+1,0,none⟩) (v:=.agg #[.int .i64 0,.slice none 0 0]) rfl (by rfl) (Zac (T:=33) (cs:=[.int .i64 0,.slice none 0 0]) (by kernel_rfl) (by kernel_rfl) ?_);exact ZG (ZG (m) _ rfl) _ rfl
        ·unfold Zew;rw[N.out]
        ·first|go_grown|(repeat' (first|assumption|refine ZwK ?_ (by dsimp only;omega) _))
       ·dsimp only at hS;obtain⟨bX,eG,gG,eN⟩:=ZfY aH.out bY.out.1 bY.out.2.1;rw[bY.out.2.2]at bX;rw[bX]at hS;have G:=Zxi bX;have bF:=Zxi eN;clear eN bX bY;go_wp2_with (go_at_call 105;refine hS.out.mono ?_;rintro e w2 ⟨⟨v,rfl,hown⟩,aE⟩;obtain⟨aP,J,rfl⟩:=Z6 hown;have m:=Zw aE M1;have C1:=bk2 m;have aX:=via E aE;have N0:=Zw aE M0;have aK:=Zxi hown;clear hown);refine Zbf ?_;intro W8 cZ;have aV:Below w2.heap.size w2 W8:=by rw[cZ];exact ZC _ _
        have cV:W8.heap[w2.heap.size]?=some (.cells #[.int .i64 den,.slice aP np J] 33 (0,0)):=by rw[cZ];exact ZA _ _ rfl
        have aA:=Zxi (ZP aK.out aV);have P0:=Zw aV N0;have P1:=Zw aV m;have aY:=via aX aV;obtain⟨Q,hQ⟩:∃Q,w2.heap.size=Q:=⟨_,rfl⟩;have dX:=Zxi (show ∀r,(Value.slice aP np J).ownBlock=some r->wr.heap.size<=r/\r<Q from fun r e=>by rw[<-hQ];exact aK.out.lt r e);have fH:=Zxi (show wr.heap.size<=Q by rw[<-hQ];exact aE.size);rw[hQ]at cV |-;have hcl:=Zxi fun(W:World)(H:W.ownsRow wr.heap.size 3 1 (.slice aP np J) np (l.map (Value.int .i64))) k (hk:k<np)=>(by
         obtain⟨g,R,h2,h3,h4⟩:=ZdI H (k:=k) (u:=.int .i64 (l.getD k 0)) (by
          have:k<l.length:=by rw[G.out];exact hk
          rw[Zx1,ZxS,ZxX this];rfl);exact⟨g,R,h3,h4⟩:∃g,aP=some ⟨g,0,none⟩/\g<W.heap.size/\W.cell? ⟨g,k,none⟩=some (.int .i64 (l.getD k 0)));have dP:w.heap.size+2<=wr.heap.size:=by omega
        obtain⟨Bs,dO⟩:∃Bs,wr.heap.size=Bs:=⟨_,rfl⟩;rw[dO]at aA dX fH hcl dP;clear cZ aK M0 M1 N0 m C1 E aX aV aE hS hQ dO;go_loopw [99] (fun i fN=>∃k:Nat,k<=np/\i=.int .i64 k/\Hid (∀j,j<k->¬l.getD j 0<0)/\W8=fN)(fun i _=>np-(intOf i).toNat);case atStart=>exact⟨0,Zzx _,rfl,fun j hj=>by omega,rfl⟩
        case round=>
         obtain⟨k,hk,rfl,dG,rfl⟩:=hrel;by_cases s:k<np
         ·have bD:(k:Int)<(np:Int):=by omega
          obtain⟨g,rfl,hg,cl⟩:=hcl.out W8 aA.out k s;obtain⟨x,hx⟩:∃x,l.getD k 0=x:=⟨_,rfl⟩;rw[hx]at cl;have eT:=Zxi hx;clear hx;by_cases eU:x<0
          ·have N:=Zxi (show ZaY np X z t=none by unfold ZaY;rw[aH.out];simp only;rw[if_pos (ZpF (k:=k) (by rw[G.out];exact s) (by rw[eT.out];exact eU))]);have C1:=bk2 P1;go_wp2;refine bodyPost_ret (v:=.tuple #[.agg #[.int .i64 0,.slice none 0 0],.bool false]) ?_ rfl ⟨?_,?_⟩;·refine ZaB (p:=2) (u:=3) (ad:=⟨w.heap.size+1,0,none⟩) (v:=.agg #[.int .i64 0,.slice none 0 0]) rfl (by rfl) (Zac (T:=33) (cs:=[.int .i64 0,.slice none 0 0]) (by kernel_rfl) (by kernel_rfl) ?_);exact ZG (ZG (P1) _ rfl) _ rfl
           ·unfold Zew;rw[N.out]
           ·first|go_grown|(repeat' (first|assumption|refine ZwK ?_ (by dsimp only;omega) _))
          ·go_wp2;go_roundw;case rel=>exact⟨k+1,by omega,by go_num,(fun j hj=>by
            by_cases dD:j=k;·rw[dD,eT.out];exact eU
            ·exact dG.out j (by omega)),by trivial⟩
           case measure=>simp[intOf]<;>omega
         ·obtain rfl:np=k:=by omega
          obtain⟨d0,d1,d2,d3,d4⟩:=c0.out _ P0;have cM:=Zxi (show l.any (·<0)=false from ZpG fun k hk=>dG.out k (by rw[G.out]at hk;exact hk));clear dG s;go_wp2;clear d0 d1 d2 d3 d4;go_loopw [111] (fun i eX=>∃k:Nat,k<=en/\i=.int .i64 k/\Hid (∀j,j<k->dotL (X.getD j default).1 l<=(X.getD j default).2*den)/\eX.heap[Q]?=some (.cells #[.int .i64 den,.slice aP np J] 33 (0,0))/\Below W8.heap.size W8 eX)(fun i _=>en-(intOf i).toNat);case atStart=>exact⟨0,Zzx _,rfl,fun j hj=>by omega,cV,ZwJ _ _⟩
          case round=>
           clear cV;obtain⟨k,hk,rfl,bH,bU,aI⟩:=hrel;have aL:=via aY aI;have O:=Zxi (ZP aA.out aI);by_cases s:k<en
           ·have bD:(k:Int)<(en:Int):=by omega
            obtain⟨x,be,oe,rfl,eZ,aB,cE,cC,e0,e1,e2,bJ,bL,bK⟩:=fE.out wr aL k s;have cU:=Zxi fun W (hb:Below wr.heap.size wr W)=>ZpC x.nm x.A aP x.co l x.c J np x.mo den W (bJ.below hb) (ZaE (ZP O.out hb)) aB G.out (by omega) cE cC (fun y hy=>Zzb (bF.out y hy) (by decide)) (by omega);have cS:=Zxi bL;obtain⟨d,hd⟩:∃d,decide (dotL x.co l<=x.mo*den)=d:=⟨_,rfl⟩;rw[hd]at cU;have eF:=Zxi hd;have cW:=Zz bU (.cells #[.string x.nm,.slice x.A np x.c,.int .i64 x.mo] 71 (0,0));have D:=bk2 cW;have gN:=ZI bU;clear hd bJ aB cE cC bL bK;cases d with
            |false=>
             have N:=Zxi (show ZaY np X z t=none by unfold ZaY;rw[aH.out];simp only;rw[if_neg (by rw[cM.out];decide),if_pos (ZpH (k:=k) (by rw[<-aU.out,Zaf,aZ.out];exact s) (by rw[cS.out];exact of_decide_eq_false eF.out))]);go_wp2_with (go_at_call 115;refine(cU.out _ (ZC _ _)).mono ?_;rintro e fM ⟨rfl,aD⟩;have cG:=Zw aD cW;have V:=via (ZC wr (.cells #[.string x.nm,.slice x.A np x.c,.int .i64 x.mo] 71 (0,0))) aD;have R1:=Zw V (Zw aI P1);have C1:=bk2 R1;have dA:=via aL V);refine bodyPost_ret (v:=.tuple #[.agg #[.int .i64 0,.slice none 0 0],.bool false]) ?_ rfl ⟨?_,?_⟩;·refine ZaB (p:=2) (u:=3) (ad:=⟨w.heap.size+1,0,none⟩) (v:=.agg #[.int .i64 0,.slice none 0 0]) rfl (by rfl) (Zac (T:=33) (cs:=[.int .i64 0,.slice none 0 0]) (by kernel_rfl) (by kernel_rfl) ?_);exact ZG (ZG (R1) _ rfl) _ rfl
             ·unfold Zew;rw[N.out]
             ·first|go_grown|(repeat' (first|assumption|refine ZwK ?_ (by dsimp only;omega) _))
            |true=>
             go_wp2_with (go_at_call 115;refine(cU.out _ (ZC _ _)).mono ?_;rintro e fM ⟨rfl,aD⟩;have cG:=Zw aD cW;have V:=via (ZC wr (.cells #[.string x.nm,.slice x.A np x.c,.int .i64 x.mo] 71 (0,0))) aD;have R1:=Zw V (Zw aI P1);have C1:=bk2 R1;have dA:=via aL V);go_roundw;case rel=>exact⟨k+1,by omega,by go_num,(fun j hj=>by
              by_cases dD:j=k;·rw[dD,cS.out];exact of_decide_eq_true eF.out
              ·exact bH.out j (by omega)),cG,via aI V⟩
             case measure=>simp[intOf]<;>omega
           ·obtain rfl:en=k:=by omega
            have bN:ZaY np X z t=some (l.map (· / (gcdL 0 (den::l):Int)),den / (gcdL 0 (den::l):Int)):=by unfold ZaY;rw[aH.out];simp only;rw[if_neg (by rw[cM.out];decide),if_neg (by rw[ZpI fun j hj=>bH.out j (by rw[<-aU.out,Zaf,aZ.out]at hj;exact hj)];decide)]
            have bV:=(Zc5 (den::l) 0).2;have eY:0<gcdL 0 (den::l):=Zeg den (by simp) (by omega);have bQ:=Zxi fun A c w' hA=>ZhL A (den::l) c w' hA (by simp only[Zyd];rw[G.out];omega) (by
             intro x hx;rcases Zyx.1 hx with rfl|hx;·exact Zzb eG (by decide)
             ·exact Zzb (bF.out x hx) (by decide));have cK:(den::l).length=1+np:=by simp only[Zyd];rw[G.out];omega
            rw[cK]at bQ;obtain⟨gI,eJ⟩:∃gI:Int,((gcdL 0 (den::l):Nat):Int)=gI:=⟨_,rfl⟩;rw[eJ]at bN bV bQ;have eI:0<gI:=by omega
            have fB:¬gI=0:=by omega
            have gK:(gI==0)=false:=by simpa using fB
            have dJ:IntKind.i64.wrap (den.tdiv gI)=den / gI:=ZdK eI (bV den (by simp)) eG (by decide);have fI:=Zxi fun j (hj:j<np)=>(ZdK eI (bV (l.getD j 0) (by
             have bB:j<l.length:=by rw[G.out];exact hj
             rw[ZxS,ZxX bB];exact Zyy _ (Zya bB))) (bF.out.get j) (by decide):IntKind.i64.wrap ((l.getD j 0).tdiv gI)=l.getD j 0 / gI);have bO:=Zxi bN;have bE:=Zxi fun(x:World)=>(⟨rfl,.inr ⟨x.heap.size,1,#[.int .i64 den],rfl,Zza _,ZA _ _ rfl,Zza _,by decide,rfl,rfl⟩⟩:(x.alloc (.cells #[.int .i64 den] 3 (0,0))).ownsRow x.heap.size 3 1 (.slice (some ⟨x.heap.size,0,none⟩) 1 1) 1 [.int .i64 den]);obtain⟨g,rfl,fR,-⟩:=hcl.out wr O.out 0 (by have:=aO.out;omega);have dY:=Zxi (dX.out g rfl);clear bN bV eY eJ cK bH s;go_wp2_with (at_builtin;refine wpList_append_own _ rfl _ _ 31 rfl wr.heap.size 3 i0 (.int .i64 0) 1 8 underlying31 hi dK dL dM rfl (by decide) _ _ _ rfl (bE.out wr) ⟨g,0,none⟩ np J (l.map (Value.int .i64)) rfl ?c0 ?c1 ?c2 ?c3 ?c4 ?c5 ?_);case c0=>rw[Zyf,G.out,Zzn]
            case c1=>
             intro j u hu;obtain⟨g',e1,-,-,e2⟩:=ZdI (ZP O.out (ZC wr (.cells #[.int .i64 den] 3 (0,0)))) hu;cases e1;have e:Addr.add ⟨g,0,none⟩ j=⟨g,j,none⟩:=by unfold Addr.add;split<;>simp_all
             rw[e];exact e2
            case c2=>intro u hu;obtain⟨y,-,rfl⟩:=ZyC.1 hu;rfl
            case c3=>unfold maxLen;omega
            case c4=>omega
            case c5=>simp
            intro v4 w4 I aG _;obtain⟨A4,c4,rfl⟩:=Z6 I;have aM:Below wr.heap.size wr w4:=Z3 (ZC wr _) aG fun b e=>by cases e;exact Zza _
            have cI:=Zxi (show At 1 Zc w4 A4 (den::l)from ZaE (l:=den::l) I);have dR:=Zxi (ZP O.out aM);have dV:=Zw aM bU;have cJ:=via aI aM;clear I aG aM O bU aI aL;go_wp2_with (go_at_call 92;refine(bQ.out _ _ _ cI.out).mono ?_;rintro e w5 ⟨rfl,U⟩;have bT:=Zw U dV;have D:=bk2 bT);have dS:=Zxi (ZP dR.out U);have aW:=via cJ U;have R1:=Zw aW P1;have aF:=via aY aW;obtain⟨fO,fP⟩:=dY.out;have fV:=ZI bT;clear dR dV cJ U cI bQ bE D aW P0 P1 aA aY;go_loopw [129] (fun i wr=>∃k:Nat,k<=np/\i=.int .i64 k/\Hid (wr.ownsRow Bs 3 1 (.slice (some ⟨g,0,none⟩) np J) np (((l.take k).map (· / gI)++l.drop k).map (Value.int .i64)))/\wr.heap[Q]?=some (.cells #[.int .i64 den,.slice (some ⟨g,0,none⟩) np J] 33 (0,0))/\wr.heap[w.heap.size+1]?=some (.cells #[.int .i64 0,.slice none 0 0] 33 (0,0))/\Below w.heap.size w wr)(fun i _=>np-(intOf i).toNat);case atStart=>exact⟨0,Zzx _,rfl,Zxi (by simpa using dS.out),bT,R1,aF⟩
            case round=>
             clear dS bT R1 aF;obtain⟨k,hk,rfl,aR,dW,R1,Y⟩:=hrel;have D:=bk2 dW;by_cases s:k<np
             ·have bD:(k:Int)<(np:Int):=by omega
              have dE:k<l.length:=by rw[G.out];exact s
              obtain⟨g',e1,gH,gJ,ci⟩:=ZdI aR.out (k:=k) (u:=.int .i64 (l.getD k 0)) (by rw[Zx1,Zkq dE];rfl);cases e1;have fi:=ZpB aR.out k;have cT:=Zxi (ZpA aR.out s (.int .i64 (l.getD k 0 / gI)));have cO:(((l.take k).map (· / gI)++l.drop k).map (Value.int .i64)).set k (.int .i64 (l.getD k 0 / gI))=((l.take (k+1)).map (· / gI)++l.drop (k+1)).map (Value.int .i64):=by rw[<-Zkp dE,List.map_set]
              rw[cO]at cT;have fJ:=fI.out k s;obtain⟨y,hy⟩:∃y,l.getD k 0=y:=⟨_,rfl⟩;rw[hy]at ci fJ cT;clear hy dE cO aR;go_wp2;go_roundw;case rel=>exact⟨k+1,by omega,by go_num,cT.out,ZB dW (by dsimp only;omega) _,ZB R1 (by dsimp only;omega) _,Y.setCell (by dsimp only;omega) _⟩
              case measure=>simp[intOf]<;>omega
             ·obtain rfl:np=k:=by omega
              have dU:=Zxi aR.out;rw[show l.take np=l by rw[<-G.out,ZyW],show l.drop np=[]by rw[<-G.out,List.drop_length],Zxq]at dU;have C1:=bk2 R1;clear aR;have eO:w.heap.size+1≠Q:=by omega
              have fU:Q≠w.heap.size+1:=by omega
              have eP:g≠Q:=by omega
              have cL:g≠w.heap.size+1:=by omega
              obtain⟨d2,fA⟩:∃d2,den / gI=d2:=⟨_,rfl⟩;rw[fA]at dJ bO;go_wp2;refine bodyPost_ret (v:=.tuple #[.agg #[.int .i64 d2,.slice (some ⟨g,0,none⟩) np J],.bool true]) ?_ rfl ⟨?_,?_⟩;·refine ZaB (p:=2) (u:=3) (ad:=⟨w.heap.size+1,0,none⟩) (v:=.agg #[.int .i64 d2,.slice (some ⟨g,0,none⟩) np J]) rfl (by rfl) (Zac (T:=33) (cs:=[.int .i64 d2,.slice (some ⟨g,0,none⟩) np J]) (by kernel_rfl) (by kernel_rfl) ?_);exact ZG (ZG (ZB R1 eO _) _ rfl) _ rfl
              ·unfold Zew;rw[bO.out];refine⟨_,_,rfl,Za5 (Zap dU.out fun r e=>?_) (Zzb (by omega) dP)⟩;cases e;rw[ZwI _ _ _ _ cL,ZwI _ _ _ _ cL,ZwI _ _ _ _ eP]
              ·exact((Y.setCell (by dsimp only;omega) _).setCell (by dsimp only;omega) _).setCell (by dsimp only;omega) _
end Go.Proofs
namespace Go.Proofs
open Tryz
open Go.RowKit
attribute [local go_sem] Oper.semAt_some def SI(n k:Nat)(M:Nat->Prop)(w:World)(J:List ChV->(Nat->Prop)->World->Prop)(W0 B O Q:Nat)(f:Nat)(wr:World):Prop:=∃i l t T,f+i=(cmb 0 n k).length/\ChI n k M w J W0 B O Q i l wr t T
theorem Zk7(m n k:Nat)(hkn:k<=n)(hn:n<=1000)(O Q:Nat)(M:Nat->Prop)(w:World)(h1:w.heap[O]?=some (.cells #[.int .i64 k] 3 (0,0)))(h2:w.heap[Q]?=some (.cells #[.int .i64 n] 3 (0,0)))(hM1:¬M O)(hM2:¬M Q)(hMw:∀j,M j->j<w.heap.size):ZkL Fence.wide m prog 114 #[.pointer (some ⟨O,0,none⟩),.pointer (some ⟨Q,0,none⟩)] Zf7 gvN M (fun t x W=>(t++[x]).map ChV.l<+:cmb 0 n k/\ZJ 3 W x.b (ZZ x.l)/\x.l.length=k)
   (fun xs=>xs.map ChV.l=cmb 0 n k) (fun t=>t.map ChV.l<+:cmb 0 n k) (cmb 0 n k).length w:=by
 intro l J Jx W hW dP cK hJ cF hY h0;have dZ:=hW.size;have g1:=hW.block O (ZI h1);have g2:=hW.block Q (ZI h2);rw[h1]at g1;rw[h2]at g2;have dI:=ZI h1;have dJ:=ZI h2;have cO:=Zxi (Zcg k (by omega));have bQ:=cO.out;have G1:=bk1 g1;have S:=Zxi hJ;have cG:=Zxi hMw;have cH:=Zxi hY;have bJ:=Zxi hM1;have bK:=Zxi hM2;have cD:=Zxi h0;have cL:=Zxi (Zee 0 n k);have aG:=Zxi (ZhA 0 n k hkn);have aC:=Zxi fun i l h=>ZhB 0 n k (n-k) (by omega) i l h;have bP:=Zxi hkn;have bX:k<=1000:=by omega
 clear h0 hJ cF hY hM1 hM2 hMw h1 h2 hkn;refine callsIn_of_wp func114 rfl trivial ?_;simp only[ntmps114,ZyT,Zyd,Zyg,Nat.reduceAdd,Nat.reduceSub,ZwD,Array.replicate_zero,List.push_toArray,Zxr,ZyJ,Zxt];gi_wp2_with fail;clear bQ G1;gi_loopw [12] (fun i wr=>∃j:Nat,j<=k/\i=.int .i64 j/\ZJ 3 wr W.heap.size (ZcP k j)/\W.grownBy wr none/\W.heap.size<wr.heap.size)(fun i _=>k-(intOf i).toNat);case atStart=>exact⟨0,Zzx _,rfl,by have:=ZJ.new (T:=3) W (List.replicate k 0);simpa [ZcP,ZZ] using this,World.grownBy_alloc W _ none,by simp⟩
 case round=>
  obtain⟨j,hj,rfl,hm,hg,bE⟩:=hrel;by_cases aY:j<k
  ·have dN:(j:Int)<(k:Int):=by omega
   have cj:=hm.loadD (k:=j) (by rw[Zo9 hj];exact aY);have fj:=hm.frozen j;have cM:=Zxi (hm.store j (j:Int));have dO:IntKind.i64.wrap ((j:Int)+1)=((j+1:Nat):Int):=by rw[Int.natCast_add];exact Zxg _ (by omega)
   gi_wp2;go_roundw;case rel=>have:=cM.out;rw[Zo8 aY]at this;exact⟨j+1,by omega,by go_num,this,⟨hg.os,hg.tape,hg.output,by simp;exact hg.size,fun i hi _=>(ZwI wr _ _ i (by simp;omega)).trans (hg.block i hi (by simp))⟩,by simpa using bE⟩
   case measure=>simp[intOf]<;>omega
  ·obtain rfl:j=k:=by omega
   rw[Zpa]at hm;have bI:SI n j M w J W.heap.size W.heap.size O Q (cmb 0 n j).length wr:=⟨0,_,[],fun _=>False,by omega,rfl,rfl,aG.out,hm,S.out _ _ _ _ none cD.out hg (fun r e=>by cases e),fun r h=>h.elim,(hg.block _ (ZI g1) (by simp)).trans g1,(hg.block _ (ZI g2) (by simp)).trans g2,Zza _,bE⟩;obtain⟨SX,aU⟩:∃SX:Nat->World->Prop,SX=fun f wr=>SI n j M w J W.heap.size W.heap.size O Q f wr:=⟨_,rfl⟩;have aK:Hid (∀f wr,SX f wr->SI n j M w J W.heap.size W.heap.size O Q f wr):=by rw[aU];exact fun _ _ h=>h
   have V:Hid (∀f wr,SI n j M w J W.heap.size W.heap.size O Q f wr->SX f wr):=by rw[aU];exact fun _ _ h=>h
   have R:=Zxi bI;obtain⟨o,aV⟩:∃o,W.heap.size=o:=⟨_,rfl⟩;rw[aV]at aK V R cK;have dD:=Zxi aV;rw[aV];clear aU bI hm hg bE aY g1 g2;gi_wp2;gi_loopw [6] (fun _ wr=>∃f,SX f wr)(fun _ wr=>leastOf fun f=>SX f wr);case atStart=>exact⟨_,V.out _ _ R.out⟩
   case round=>
    clear R;obtain⟨f,hf⟩:∃f,(leastOf fun f=>SX f wr)=f:=⟨_,rfl⟩;have aX:=(leastOf_spec hrel).1;rw[hf]at aX;have cJ:=Zxi hf;clear hf hrel;obtain⟨i,L,t,T,dL,hc⟩:=aK.out _ _ aX;clear aX;obtain⟨aO,aP,z,aD,bU,aJ,bF,bG,bV⟩:=hc;have C1:=bk1 bF;have C2:=bk1 bG;have aT:=cL.out L (ZyD z);have dM:i<(cmb 0 n j).length:=(Zx0.1 z).1;have bD:(t++[(⟨o,L⟩:ChV)]).map ChV.l=(cmb 0 n j).take (i+1):=by rw[Zyn,aP,ZyV,z];rfl
    have bB:(t++[(⟨o,L⟩:ChV)]).map ChV.l<+:cmb 0 n j:=by rw[bD];exact List.take_prefix _ _
    obtain⟨fn,tm,bY,bZ,N,hR⟩:=cH.out t T ⟨o,L⟩ wr bU (fun r hr=>⟨by have:=(aJ r hr).1;omega,(aJ r hr).2.1⟩) (fun y _ r hr=>hr.elim) (by omega) ⟨bB,aD,aT⟩;have cZ:(Instr.yield l #[.slice (some ⟨o,0,none⟩) j j]).run prog wr=.ok (.round l fn tm bY bZ) wr:=by have:=N;simp only[Zf7,aT]at this;exact this
    have bL:=Zxi hR;have dQ:(j:Int)<=(n:Int):=by have:=bP.out;omega
    have aL:=Zxi bD;have bS:=Zxi bB;have aF:=Zxi aJ;have aE:=Zxi aD;have aM:=Zxi bF;have aN:=Zxi bG;have I:=Zxi z;have dH:=bV.2;have bH:=Zxi aO;clear N hR bD bB aP bU aJ aD z bF bG bV aO;gi_wp2_with fail;clear cZ C1 C2;refine⟨fun h=>(by cases h),bL.out.mono ?_⟩;clear bL;rintro e w4 ⟨T',t1,t2,aA,(⟨rfl,U⟩|⟨rfl,U⟩)⟩
    ·have bM:∀r,T' r->o<=r/\r<w4.heap.size/\r≠o:=fun r hr=>by
      have h2:=t2 r hr;rcases t1 r hr with h|h;·have:=aF.out r h;omega
      ·omega
     have aH:∀b,(b=o∨b=O∨b=Q)->¬(M b∨T b∨b=l):=by
      rintro b hb (h|h|h)
      ·rcases hb with rfl|rfl|rfl;·have:=cG.out _ h;omega
       ·exact bJ.out h
       ·exact bK.out h
      ·have:=aF.out b h;omega
      ·omega
     have aQ:=aE.out.grown aA (aH o (.inl rfl));have q1:=aA.obj (aH O (.inr (.inl rfl))) aM.out;have q2:=aA.obj (aH Q (.inr (.inr rfl))) aN.out;have D1:=bk1 q1;have D2:=bk1 q2;obtain⟨m0,aZ⟩:∃m0,n-j=m0:=⟨_,rfl⟩;have cR:IntKind.i64.wrap ((j:Int)-1)=(j:Int)-1:=Zxg _ (by omega);have K:=Zxi U;have X:=Zxi bM;clear aA t1 t2 U bM aH aE aM aN aF;gi_wp2;gi_loopw [6] (fun aR wi=>∃a:Nat,a<=j/\aR=.int .i64 ((a:Int)-1)/\Hid (∀q y,a<=q->L[q]?=some y->y=m0+q)/\Below w4.heap.size w4 wi)(fun aR _=>(intOf aR+1).toNat);case atStart=>exact⟨j,Zza _,rfl,fun q y hq N=>by have:=(Zx0.1 N).1;omega,ZwJ _ _⟩
     case round=>
      obtain⟨a,ha,rfl,u,G⟩:=hrel;have r1:=Zw G q1;have r2:=Zw G q2;have D:=aQ.below G;have E1:=bk1 r1;have E2:=bk1 r2;have dW:IntKind.i64.wrap ((n:Int)-(j:Int))=(m0:Int):=by rw[Zxg _ (by omega)];omega
      rcases a with _|b
      ·have e0:((0:Nat):Int)-1=-1:=rfl;rw[e0];have cP:decide ((0:Int)<=-1)=false:=rfl;gi_wp2;refine wpIn_wide.2 ?_;refine Zbc w4 (by kernel_rfl) (by kernel_rfl) G ?_;intro Z Y;repeat (go_big_quiet_step (fail))
       refine wpQuiet_nil ?_;intro wb s d H;clear Z Y;have aS:=Zxi (S.out _ _ _ _ none K.out (ZkO d) (fun r e=>by cases e));have bO:Hid (i+1=(cmb 0 n j).length):=by have h1:=aC.out i L I.out;rw[ZhD (n-j) L (fun q x hx=>by rw[aZ];exact u.out q x (Zzx _) hx)]at h1;have:=ZxZ.1 h1.symm;show _=_;omega
       gi_wp2;refine bodyPost_ret (results_none rfl _ _ _) rfl ?_;exact⟨⟨_,rfl⟩,.inl ⟨_,T',by rw[aL.out,bO.out,ZyW],aS.out⟩⟩
      ·have e0:((b+1:Nat):Int)-1=(b:Int):=by omega
       rw[e0];obtain⟨x,hx⟩:∃x,L[b]?=some x:=⟨_,ZxX (by omega)⟩;have cx:=D.load (Zcw hx);have eB:x<n:=(Asc.lt (ZdE 0 n j L (ZyD I.out)) x (ZyD hx)).2|>fun h=>by omega
       have dK:(b:Int)<(j:Int):=by omega
       have cP:decide ((0:Int)<=(b:Int))=true:=by simp
       have dF:IntKind.i64.wrap ((m0:Int)+(b:Int))=(m0:Int)+(b:Int):=Zxg _ (by omega);have eC:=D.size;by_cases aI:x=m0+b
       ·have cW:((x:Int)==(m0:Int)+(b:Int))=true:=by simp;omega
        have bA:=Zxi (show ∀q y,b<=q->L[q]?=some y->y=m0+q from fun q y hq N=>by
         rcases Nat.eq_or_lt_of_le hq with rfl|hq;·rw[hx]at N;cases N;exact aI
         ·exact u.out q y hq N);have cS:IntKind.i64.wrap ((b:Int)-1)=(b:Int)-1:=Zxg _ (by omega);clear aI u hx;gi_wp2;refine wpIn_wide.2 ?_;refine Zbc w4 (by kernel_rfl) (by kernel_rfl) G ?_;intro Z Y;repeat (go_big_quiet_step (fail))
        refine wpQuiet_nil ?_;intro wb s d H;clear Z Y;gi_wp2;go_roundw;case rel=>exact⟨b,by omega,rfl,bA.out,d⟩
        case measure=>simp[intOf]<;>omega
       ·have cW:((x:Int)==(m0:Int)+(b:Int))=false:=by simp;omega
        have cT:IntKind.i64.wrap ((x:Int)+1)=(x:Int)+1:=Zxg _ (by omega);have cX:=Zxi (show ((x:Int)+1)=((x+1:Nat):Int)by omega);have cS:IntKind.i64.wrap ((b:Int)+1)=((b+1:Nat):Int):=by rw[Zxg _ (by omega)];omega
        have cQ:=Zxi ((Zj3 (n-j) L b x hx (by rw[aZ];exact aI) (fun q y hq N=>by rw[aZ];exact u.out q y (by omega) N)).symm.trans (aC.out i L I.out));have cV:=Zxi hx;have cN:=Zxi D;have eD:=Zxi r1;have eE:=Zxi r2;clear aI u hx cR;gi_wp2;refine wpIn_wide.2 ?_;refine Zbc w4 (by kernel_rfl) (by kernel_rfl) G ?_;intro Z Y;repeat (go_big_quiet_step (fail))
        refine wpQuiet_nil ?_;intro wb s d H;clear Z Y;have s1:=Zw s r1;have s2:=Zw s r2;have E:=D.below s;have F1:=bk1 s1;have F2:=bk1 s2;have cA:=E.load (Zcw cV.out);have cC:=E.frozen b;have aS:=Zxi (S.out _ _ _ _ none K.out (ZkO d) (fun r e=>by cases e));have eA:=E.size;clear E1 E2 r1 r2 D cx aQ q1 q2 D1 D2;have cI:b<L.length:=by omega
        have bW:=Zxi (show ZJ 3 (wb.setCell ⟨o,b,none⟩ (.int .i64 ((x:Int)+1))) o (ZZ (Zbz L b x (b+1)))from by rw[<-Zpb cI,<-ZkN,cX.out];exact E.store b _);have dB:=Zxi (ZB s1 (p:=⟨o,b,none⟩) (by dsimp only;omega) (.int .i64 ((x:Int)+1)));have dC:=Zxi (ZB s2 (p:=⟨o,b,none⟩) (by dsimp only;omega) (.int .i64 ((x:Int)+1)));have cE:=Zxi (S.out _ _ _ _ (some o) aS.out (ZkP wb o b (.int .i64 ((x:Int)+1))) (fun r e=>by cases e;exact⟨by omega,fun h=>(X.out _ h).2.2 rfl,fun y _ h=>h⟩));gi_wp2;have dE:(wb.setCell ⟨o,b,none⟩ (.int .i64 ((x:Int)+1))).heap.size=wb.heap.size:=by simp
        generalize wb.setCell ⟨o,b,none⟩ (.int .i64 ((x:Int)+1))=w5 at*;have bN:=Zxi (fun r hr=>by have h1:=X.out r hr;have h2:=d.size;exact⟨h1.1,by omega,h1.2.2⟩:∀r,T' r->o<=r/\r<w5.heap.size/\r≠o);clear s1 s2 F1 F2 E cA cC s d H G cT;gi_loopw [7] (fun q_ wi=>∃q:Nat,b<q/\q<=j/\q_=.int .i64 q/\Hid (ZJ 3 wi o (ZZ (Zbz L b x q))/\wi.heap[O]?=some (.cells #[.int .i64 j] 3 (0,0))/\wi.heap[Q]?=some (.cells #[.int .i64 n] 3 (0,0))/\J (t++[⟨o,L⟩]) T' wi/\wi.heap.size=w5.heap.size))(fun q_ _=>j-(intOf q_).toNat);case atStart=>exact⟨b+1,by omega,by omega,rfl,bW.out,dB.out,dC.out,cE.out,rfl⟩
        case round=>
         obtain⟨q,aW,dV,rfl,bR⟩:=hrel;obtain⟨u0,u1,u2,u3,u4⟩:=bR.out;clear bR;have E1:=bk1 u1;by_cases bT:q<j
         ·have dU:(q:Int)<(j:Int):=by omega
          obtain⟨p,rfl⟩:∃p,q=p+1:=⟨q-1,by omega⟩;have dS:((p+1:Nat):Int)-1=(p:Int):=by omega
          have dX:IntKind.i64.wrap (((p+1:Nat):Int)-1)=(p:Int):=by rw[Zxg _ (by omega)];omega
          have dR:(p:Int)<(j:Int):=by omega
          have cq:=u0.load (Zcw (by have:=Zpe (l:=L) (x:=x) aW (by omega);rwa [Zy4]at this));have cY:x+(p+1-b)<=2000:=by omega
          obtain⟨y,N⟩:∃y,x+(p+1-b)=y:=⟨_,rfl⟩;rw[N]at cq cY;have cU:IntKind.i64.wrap ((y:Int)+1)=((y+1:Nat):Int):=by rw[Zxg _ (by omega)];omega
          have dY:IntKind.i64.wrap (((p+1:Nat):Int)+1)=((p+1+1:Nat):Int):=by rw[Zxg _ (by omega)];omega
          have cs:=u0.loadD (k:=p+1) (by rw[Zep,Zpd aW (by omega)];omega);have fs:=u0.frozen (p+1);have dA:=Zxi (show ((y:Int)+1)=((y+1:Nat):Int)by omega);have v0:=Zxi (show ZJ 3 (wr.setCell ⟨o,p+1,none⟩ (.int .i64 ((y:Int)+1))) o (ZZ (Zbz L b x (p+1+1)))from by have:=Zpc (l:=L) (x:=x) aW (by omega);rw[N]at this;rw[<-this,<-ZkN,dA.out];exact u0.store (p+1) _);have v1:=Zxi (ZB u1 (p:=⟨o,p+1,none⟩) (by dsimp only;omega) (.int .i64 ((y:Int)+1)));have v2:=Zxi (ZB u2 (p:=⟨o,p+1,none⟩) (by dsimp only;omega) (.int .i64 ((y:Int)+1)));have vJ:=Zxi (S.out _ _ _ _ (some o) u3 (ZkP wr o (p+1) (.int .i64 ((y:Int)+1))) (fun r e=>by cases e;exact⟨by omega,fun h=>(X.out _ h).2.2 rfl,fun y _ h=>h⟩));have dG:IntKind.i64.wrap ((y:Int)+1)=(y:Int)+1:=Zxg _ (by omega);clear cU N u0 u1 u2 u3;gi_wp2;go_roundw;case rel=>exact⟨p+1+1,by omega,by omega,rfl,v0.out,v1.out,v2.out,vJ.out,by simpa using u4⟩
          case measure=>simp[intOf]<;>omega
         ·obtain rfl:q=j:=by omega
          have aB:=Zxi (V.out (f-1) wr ⟨i+1,Zbz L b x q,t++[⟨o,L⟩],T',by omega,⟨by rw[Zyc,bH.out];rfl,aL.out,by have:=cQ.out;rw[<-this,<-aT,Zpf],u0,u3,fun r hr=>by rw[u4];exact bN.out r hr,u1,u2,Zza _,u0.size⟩⟩);clear u0 u1 u2 u3 bT;gi_wp2;refine⟨⟨f-1,aB.out⟩,?_⟩;rw[cJ.out];exact Nat.lt_of_le_of_lt ((leastOf_spec (p:=fun f=>SX f wr) ⟨f-1,aB.out⟩).2 (f-1) aB.out) (by omega)
    ·have K:=Zxi U;clear aA U t1 t2;gi_wp2;refine bodyPost_ret (results_none rfl _ _ _) rfl ?_;exact⟨⟨_,rfl⟩,.inr ⟨_,T',bS.out,K.out⟩⟩
end Go.Proofs
namespace Go.Proofs
open Tryz
open Go.RowKit
theorem Zil:(ZW (.slice none 0 0) (.slice none 0 0) (.slice none 0 0) (.slice none 0 0) [] []).toArray=#[.slice none 0 0,.slice none 0 0,.slice none 0 0,.slice none 0 0,.bool false,.bool false,.bool false,.bool false,.bool false,.bool false,.bool false,.bool false,.bool false,.bool false,.bool false,.bool false,.bool false]:=by simp[ZW,boolL,ZyP]
theorem ZpK(pv d:Value):(ZW pv d (.slice none 0 0) (.slice none 0 0) [] []).toArray=#[pv,d,.slice none 0 0,.slice none 0 0,.bool false,.bool false,.bool false,.bool false,.bool false,.bool false,.bool false,.bool false,.bool false,.bool false,.bool false,.bool false,.bool false]:=by simp[ZW,boolL,ZyP]
theorem Zk8(n:Nat)(z:List Nat):∀u∈boolL n z,u.oneCell'=true:=by intro u d;obtain⟨i,-,rfl⟩:=ZyC.1 d;rfl
theorem Zgh{pv f i h:Value} {z t:List Nat} (m:pv.oneCell'=true)(o:f.oneCell'=true)(p:i.oneCell'=true)(h4:h.oneCell'=true):∀u∈ZW pv f i h z t,u.oneCell'=true:=by
 intro u d;simp only[ZW,Zyx,Zyu]at d;rcases d with rfl|rfl|rfl|rfl|d|d;·exact m
 ·exact o
 ·exact p
 ·exact h4
 ·exact Zk8 _ _ _ d
 ·exact Zk8 _ _ _ d
theorem Zk9(O I A:Option Addr)(d Q E J cl:Nat)(l:List Nat)(w:World)(hl:At 1 Zc w A (ZZ l))(V:Asc 0 (d+E) l)(hp:d<=5)(he:E<=8):Calls prog 89 #[.agg #[.slice O d Q,.slice I E J],.slice A l.length cl] w fun e w'=>(∃zv tv,e=.returned (.agg (ZW (.slice O d Q) (.slice I E J) zv tv (zerosL d l) (tightL d l)).toArray)/\w'.ownsRow w.heap.size 3 1 zv (zerosL d l).length ((ZZ (zerosL d l)).map (Value.int .i64))/\w'.ownsRow w.heap.size 3 1 tv (tightL d l).length ((ZZ (tightL d l)).map (Value.int .i64)))/\Below w.heap.size w w':=by
 have bS:l.length<=13:=by
  have:∀(l:List Nat)(a b:Nat),Asc a b l->l.length<=b-a:=by intro l;induction l with|nil=>intro a b _;exact Zzx _|cons x t ih=>intro a b h;have h1:=ih (x+1) b h.2.2;have h2:=h.1;have h3:=h.2.1;simp only[Zyd];omega
  have:=this l 0 _ V;omega
 have gl:=Zxi fun W (hb:Below w.heap.size w W) k (hk:k<l.length)=>Zan (hl.below hb) (k:=k) (by rw[Zep];exact hk);have aV:=Zxi fun x hx=>(Asc.lt V x hx).2;obtain⟨N,hN⟩:∃N,l.length=N:=⟨_,rfl⟩;have bD:=Zxi hN;rw[hN]at gl bS |-;obtain⟨i0,hi,bL,bM,bN⟩:=info_parts info3;have L:∀x,(sizeOf 140).run prog x=.ok 17 x:=fun x=>by kernel_rfl
 have aL:∀x,(isAgg 140).run prog x=.ok true x:=fun x=>by kernel_rfl
 obtain⟨ZF,aU⟩:∃ZF,zerosL d l=ZF:=⟨_,rfl⟩;obtain⟨TF,aT⟩:∃TF,tightL d l=TF:=⟨_,rfl⟩;rw[aU,aT];have aK:=Zxi aU;have aJ:=Zxi aT;clear hl V hN aU aT;go_enter func89,ntmps89;go_wp2_with (refine ZaT (by with_reducible rfl) (.tmp 5) (.tmp 10) 140 (by with_reducible rfl) (w.heap.size+2) (ZW (.slice O d Q) (.slice I E J) (.slice none 0 0) (.slice none 0 0) [] []) (ZW (.slice none 0 0) (.slice none 0 0) (.slice none 0 0) (.slice none 0 0) [] []) 140 ?sp ?sq (L _) ?sb rfl (Zgh rfl rfl rfl rfl) ?_);case sp=>rfl
 case sq=>rw[ZpK];rfl
 case sb=>rw[Zil];(repeat (first|assumption|(refine ZA _ _ ?_;(simp;done))|refine ZD ?_|refine Zz ?_ _|refine ZB ?_ (by simp<;>omega) _))
 intro w1 aN aG aO;have M0:w1.heap[w.heap.size]?=some (.cells #[.slice O d Q,.slice I E J] 25 (0,0)):=ZaM aG (by(repeat (first|assumption|(refine ZA _ _ ?_;(simp;done))|refine ZD ?_|refine Zz ?_ _|refine ZB ?_ (by simp<;>omega) _))) (by simp<;>omega);have bE:Below w.heap.size w w1:=Z3 (via (ZC _ _) (via (ZC _ _) (ZC _ _))) aG (fun b e=>by have:=ZzE e;omega);have bT:w1.heap.size=w.heap.size+3:=by simpa using aO
 have aB:Hid (∃c,w1.heap[w.heap.size+1]?=some (.cells c 140 (0,0))/\c.size=17):=Zxi ⟨_,ZaM aG (by(repeat (first|assumption|(refine ZA _ _ ?_;(simp;done))|refine ZD ?_|refine Zz ?_ _|refine ZB ?_ (by simp<;>omega) _))) (by simp<;>omega),rfl⟩;clear aG aO;go_wp2;go_loopw [13] (fun i wr=>∃k:Nat,k<=N/\i=.int .i64 k/\wr.heap[w.heap.size]?=some (.cells #[.slice O d Q,.slice I E J] 25 (0,0))/\Hid (∃c,wr.heap[w.heap.size+1]?=some (.cells c 140 (0,0))/\c.size=17)/\Hid (∃zv tv,BasI (w.heap.size+3) (w.heap.size+2) (.slice O d Q) (.slice I E J) (zerosL d (l.take k)) (tightL d (l.take k)) zv tv wr)/\Below w.heap.size w wr/\w.heap.size+3<=wr.heap.size) (fun i _=>N-(intOf i).toNat);case atStart=>exact⟨0,Zzx _,rfl,M0,aB.out,⟨.slice none 0 0,.slice none 0 0,aN,World.ownsRow_nil _ _ _ _,World.ownsRow_nil _ _ _ _,fun g h=>by cases h⟩,bE,by omega⟩
 case round=>
  clear M0 aN bE bT aB;obtain⟨k,hk,rfl,M0,hr,aM,aF,bY⟩:=hrel;obtain⟨zv,tv,hB⟩:=aM.out;obtain⟨Bk,Bz,Bt,aP⟩:=hB;obtain⟨zA,zc,rfl⟩:=Z6 Bz;obtain⟨tA,tc,rfl⟩:=Z6 Bt;have C0:=bk2 M0;have CB:=Zh9 Bk;clear aM;by_cases aX:k<N
  ·have bX:(k:Int)<(N:Int):=by omega
   obtain⟨b,o,rfl,bW,ck⟩:=gl.out wr aF k aX;obtain⟨x,hx⟩:∃x,l[k]?=some x:=⟨_,ZxX (by rw[bD.out];exact aX)⟩;have bK:(ZZ l).getD k 0=(x:Int):=by rw[ZxS,Zcw hx];rfl
   rw[bK]at ck;have cE:=aV.out x (ZyD hx);have aZ:l.take (k+1)=l.take k++[x]:=by rw[ZyV,hx];rfl
   have aI:=Zxi (show zerosL d (l.take (k+1))=if x<d then zerosL d (l.take k)++[x]else zerosL d (l.take k)by rw[aZ,Zpk]);have aC:=Zxi (show tightL d (l.take (k+1))=if x<d then tightL d (l.take k)else tightL d (l.take k)++[x-d]by rw[aZ,Zpl]);clear aZ;have cF:(zerosL d (l.take k)).length<=13:=Zzb (Zye _ _) (by simp;omega);have bZ:(tightL d (l.take k)).length<=13:=by unfold tightL;rw[Zyf];exact Zzb (Zye _ _) (by simp;omega)
   generalize zerosL d (l.take k)=Z at*;generalize tightL d (l.take k)=T at*;have p:=Zxi Bz;have m:=Zxi Bt;have z:=Zxi Bk;have s:=Zxi aP;clear bK hx Bz Bt Bk aP;by_cases D:x<d
   ·have bU:(x:Int)<(d:Int):=by omega
    have cC:(x:Int)<5:=by omega
    have aD:x<5:=by omega
    have cz:=Zaq z.out (Zf9 (.slice O d Q) (.slice I E J) (.slice zA Z.length zc) (.slice tA T.length tc) Z T x aD);have fz:=Zeq z.out (4+x);go_wp2_with (at_builtin;refine wpList_append_lies _ rfl _ _ 31 rfl (w.heap.size+3) 3 i0 (.int .i64 0) 1 8 underlying31 hi bL bM bN rfl (by decide) _ _ _ rfl (p.out.alloc _) ⟨wr.heap.size,0,none⟩ 1 1 [.int .i64 (x:Int)] rfl rfl ?c1 ?c2 (by decide) ?c3 ?c4 ?c5 (wr.heap.size+1) ?c6 ?_);case c1=>exact Zbp _ [.int .i64 (x:Int)] _ (by simp)
    case c2=>intro u hu;simp at hu;subst hu;rfl
    case c3=>unfold maxLen;omega
    case c4=>omega
    case c5=>simp;omega
    case c6=>simp
    intro g G w3 H f aA bG;have bR:=(H.lt g rfl).1;have r:=ZaM f (Zz z.out _) (ZaL p.out (by omega));have M3:=ZaM f (Zz M0 _) (ZaL p.out (by omega));have aQ:=Zxi (ZdH (ZP m.out (ZC _ _)) f fun g' R S=>s.out g' S.symm R);have aY:Hid (∃c,w3.heap[w.heap.size+1]?=some (.cells c 140 (0,0))/\c.size=17):=by obtain⟨c,h1,h2⟩:=hr.out;exact⟨c,ZaM f (Zz h1 _) (ZaL p.out (by omega)),h2⟩
    have aS:=Zxi (show ∀g',(Value.slice (some ⟨g,0,none⟩) (Z.length+1) G).ownBlock=some g'->(Value.slice tA T.length tc).ownBlock≠some g' from fun g' R S=>by
     cases R;rcases aA with h|h;·exact s.out g h S
     ·have:=(m.out.lt g S).2;omega);have X:Below w.heap.size w w3:=Z3 (via aF (ZC _ _)) f fun b e=>by have:=(p.out.lt b e).1;omega
    have bJ:wr.heap.size+1<=w3.heap.size:=by have:=f.size;simpa using this
    have bO:=Zh9 r;have bP:=Zaq r (Zf9 (.slice O d Q) (.slice I E J) (.slice zA Z.length zc) (.slice tA T.length tc) Z T x aD);have bQ:=Zeq r (4+x);have Y:Hid (w3.ownsRow (w.heap.size+3) 3 1 (.slice (some ⟨g,0,none⟩) (Z.length+1) G) (Z.length+1) ((ZZ (Z++[x])).map (Value.int .i64))):=Zxi (by
     have e:(ZZ (Z++[x])).map (Value.int .i64)=(ZZ Z).map (Value.int .i64)++[.int .i64 (x:Int)]:=by simp[ZZ]
     rw[e];exact H);have U:=Zxi r;clear CB cz fz r H f aA p m z s hr C0 M0;go_wp2;go_roundw;case rel=>
     refine⟨k+1,by omega,by go_num,ZB (ZB M3 (by dsimp only;omega) _) (by dsimp only;omega) _,?_,⟨.slice (some ⟨g,0,none⟩) (Z.length+1) G,.slice tA T.length tc,?_,?_,?_,aS.out⟩,(X.setCell (by dsimp only;omega) _).setCell (by dsimp only;omega) _,by simp;omega⟩;·obtain⟨c,h1,h2⟩:=aY.out;exact⟨c,ZB (ZB h1 (by dsimp only;omega) _) (by dsimp only;omega) _,h2⟩
     ·rw[aI.out,aC.out,if_pos D,if_pos D];exact ZG (ZG U.out _ (Zpi ..)) _ (Zpg _ _ _ _ _ _ x aD)
     ·rw[aI.out,if_pos D,Zyc];exact ownsRow_setCell_below (ownsRow_setCell_below Y.out (by dsimp only;omega) _) (by dsimp only;omega) _
     ·rw[aC.out,if_pos D];exact ownsRow_setCell_below (ownsRow_setCell_below aQ.out (by dsimp only;omega) _) (by dsimp only;omega) _
    case measure=>simp[intOf]<;>omega
   ·obtain⟨y,hy⟩:∃y,x-d=y:=⟨_,rfl⟩;have bU:(d:Int)<=(x:Int):=by omega
    have cA:IntKind.i64.wrap ((x:Int)-(d:Int))=(y:Int):=by rw[Zxg _ (by omega)];omega
    have cD:(y:Int)<8:=by omega
    have aE:y<8:=by omega
    rw[hy]at aC;have cz:=Zaq z.out (ZkQ (.slice O d Q) (.slice I E J) (.slice zA Z.length zc) (.slice tA T.length tc) Z T y aE);have fz:=Zeq z.out (9+y);clear hy;go_wp2_with (at_builtin;refine wpList_append_lies _ rfl _ _ 31 rfl (w.heap.size+3) 3 i0 (.int .i64 0) 1 8 underlying31 hi bL bM bN rfl (by decide) _ _ _ rfl (m.out.alloc _) ⟨wr.heap.size,0,none⟩ 1 1 [.int .i64 (y:Int)] rfl rfl ?c1 ?c2 (by decide) ?c3 ?c4 ?c5 (wr.heap.size+1) ?c6 ?_);case c1=>exact Zbp _ [.int .i64 (y:Int)] _ (by simp)
    case c2=>intro u hu;simp at hu;subst hu;rfl
    case c3=>unfold maxLen;omega
    case c4=>omega
    case c5=>simp;omega
    case c6=>simp
    intro g G w3 H f aA bG;have bR:=(H.lt g rfl).1;have r:=ZaM f (Zz z.out _) (ZaL m.out (by omega));have M3:=ZaM f (Zz M0 _) (ZaL m.out (by omega));have aR:=Zxi (ZdH (ZP p.out (ZC _ _)) f fun g' R S=>s.out g' R S.symm);have aY:Hid (∃c,w3.heap[w.heap.size+1]?=some (.cells c 140 (0,0))/\c.size=17):=by obtain⟨c,h1,h2⟩:=hr.out;exact⟨c,ZaM f (Zz h1 _) (ZaL m.out (by omega)),h2⟩
    have aS:=Zxi (show ∀g',(Value.slice zA Z.length zc).ownBlock=some g'->(Value.slice (some ⟨g,0,none⟩) (T.length+1) G).ownBlock≠some g' from fun g' R S=>by
     cases S;rcases aA with h|h;·exact s.out g R h
     ·have:=(p.out.lt g R).2;omega);have X:Below w.heap.size w w3:=Z3 (via aF (ZC _ _)) f fun b e=>by have:=(m.out.lt b e).1;omega
    have bJ:wr.heap.size+1<=w3.heap.size:=by have:=f.size;simpa using this
    have bO:=Zh9 r;have bP:=Zaq r (ZkQ (.slice O d Q) (.slice I E J) (.slice zA Z.length zc) (.slice tA T.length tc) Z T y aE);have bQ:=Zeq r (9+y);have Y:Hid (w3.ownsRow (w.heap.size+3) 3 1 (.slice (some ⟨g,0,none⟩) (T.length+1) G) (T.length+1) ((ZZ (T++[y])).map (Value.int .i64))):=Zxi (by
     have e:(ZZ (T++[y])).map (Value.int .i64)=(ZZ T).map (Value.int .i64)++[.int .i64 (y:Int)]:=by simp[ZZ]
     rw[e];exact H);have U:=Zxi r;clear CB cz fz r H f aA p m z s hr C0 M0;go_wp2;go_roundw;case rel=>
     refine⟨k+1,by omega,by go_num,ZB (ZB M3 (by dsimp only;omega) _) (by dsimp only;omega) _,?_,⟨.slice zA Z.length zc,.slice (some ⟨g,0,none⟩) (T.length+1) G,?_,?_,?_,aS.out⟩,(X.setCell (by dsimp only;omega) _).setCell (by dsimp only;omega) _,by simp;omega⟩;·obtain⟨c,h1,h2⟩:=aY.out;exact⟨c,ZB (ZB h1 (by dsimp only;omega) _) (by dsimp only;omega) _,h2⟩
     ·rw[aI.out,aC.out,if_neg D,if_neg D];exact ZG (ZG U.out _ (Zpj ..)) _ (Zph _ _ _ _ _ _ y aE)
     ·rw[aI.out,if_neg D];exact ownsRow_setCell_below (ownsRow_setCell_below aR.out (by dsimp only;omega) _) (by dsimp only;omega) _
     ·rw[aC.out,if_neg D,Zyc];exact ownsRow_setCell_below (ownsRow_setCell_below Y.out (by dsimp only;omega) _) (by dsimp only;omega) _
    case measure=>simp[intOf]<;>omega
  ·obtain rfl:k=N:=by omega
   have K:l.take k=l:=by rw[<-bD.out,ZyW]
   clear CB;rw[K,aK.out,aJ.out]at Bk;rw[K,aK.out]at Bz;rw[K,aJ.out]at Bt;have p:=Zxi Bz;have m:=Zxi Bt;clear aX K aP Bz Bt;obtain⟨cr,aB,bH⟩:=hr.out;go_wp2_with (first
    |(refine Zen (by with_reducible rfl) (.tmp 5) 140 (by with_reducible rfl) (w.heap.size+2) (ZW (.slice O d Q) (.slice I E J) (.slice zA ZF.length zc) (.slice tA TF.length tc) ZF TF) 140 ?lp (aL _) (L _) ?lb ?_)|(refine ZaT (by with_reducible rfl) (.tmp 4) (.tmp 46) 140 (by with_reducible rfl) (w.heap.size+1) (ZW (.slice O d Q) (.slice I E J) (.slice zA ZF.length zc) (.slice tA TF.length tc) ZF TF) cr.toList 140 ?sp ?sq (L _) ?sb ?sl (Zgh rfl rfl rfl rfl) ?_));case lp=>rfl
   case lb=>exact Bk
   case sb=>rw[Array.toArray_toList];exact aB
   case sl=>rw[Array.length_toList,bH];rfl
   intro w2 aW aH bV;have bF:Below w.heap.size w w2:=Z3 aF aH fun b e=>by have:=ZzE e;omega
   have bB:=ZdH p.out aH fun g' R S=>by have:=(p.out.lt g' R).1;have:=ZzE S;omega
   have bA:=ZdH m.out aH fun g' R S=>by have:=(m.out.lt g' R).1;have:=ZzE S;omega
   have aR:=Zxi bB;have aQ:=Zxi bA;clear Bk bB bA p m aH aB bH C0 M0 hr;go_wp2;refine bodyPost_ret (v:=.agg (ZW (.slice O d Q) (.slice I E J) (.slice zA ZF.length zc) (.slice tA TF.length tc) ZF TF).toArray) ?_ rfl ⟨⟨_,_,rfl,Za5 (base:=w.heap.size) aR.out (Nat.le_add_right _ 3),Za5 (base:=w.heap.size) aQ.out (Nat.le_add_right _ 3)⟩,bF⟩;have bI:(loadVar 140 ⟨w.heap.size+1,0,none⟩).run prog w2=.ok (.agg (ZW (.slice O d Q) (.slice I E J) (.slice zA ZF.length zc) (.slice tA TF.length tc) ZF TF).toArray) w2:=Zac (aL _) (L _) aW;exact ZdM rfl rfl bI
end Go.Proofs
