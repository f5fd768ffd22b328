import Derived.Test.YtiibhhpdcapbaaaGreatDoorMg4
import Derived.RangeFuncNested
import Derived.RangeFuncBound
import Derived.Shelf.RegionOpen
import Derived.OwnWalkIn
import Derived.LoopNIn
import Derived.LoopIn
import Derived.Deep.LoopGhost
set_option linter.all false
def Qo{P:Prop}(h:P:=by simp; omega):P:=h
def Qn{P:Prop}(h:P:=by grind):P:=h
def Qh{P:Prop}(h:P:=by with_reducible rfl):P:=h
def Qg{P:Prop}(h:P:=by dsimp only;omega):P:=h
set_option maxRecDepth 100000
set_option maxHeartbeats 16000000
namespace Go
def P0:=@World.cell?_of_block
def x8:=@World.putObj_heap_other
def kE:=@World.putObj_size
def EM:=@RowKit.ownsRow_setCell_below
def iD:=@grownBy_putObj'
def iE:=@wpList_append_lies
def oP:=@run_append_lies
def o9:=@World.news_of_block
def lV:=@callsIn_wide
def jC:=@List.map_set
def jD:=@List.nodup_nil
def jE:=@Nat.sub_self
def sX:=@leastOf_spec
def uN:=@World.alloc_heap_new
def uO:=@World.grownBy_alloc
def uP:=@Oper.wp_mono
def uQ:=@Array.all_eq_true'
def p7:=@List.getElem?_take_of_lt
def p8:=@List.countP_eq_length
def p9:=@List.eq_of_mem_replicate
def qA:=@Nat.lt_of_le_of_lt
def uR:=@List.length_replicate
def qB:=@Array.replicate_zero
def qC:=@List.push_toArray
def IL:=@World.putObj_heap_same
def zR:=@List.range'_1_concat
def zS:=@List.setIfInBounds_toArray
def zT:=@List.eq_nil_iff_forall_not_mem
def zU:=@Array.toList_append
def zV:=@Option.isNone_iff_eq_none
def IM:=@List.exists_mem_of_ne_nil
def zW:=@Array.size_setIfInBounds
def zX:=@Int.eq_of_mul_eq_mul_left
def zY:=@Int.lt_of_mul_lt_mul_left
def zZ:=@decide_eq_false_iff_not
def AA:=@Array.length_toList
def jF:=@Array.replicate_succ
def lB:=@RowKit.Below.setCell
def k4:=@Bool.or_false
def k7:=@Bool.or_self
def l5:=@Bool.or_true
def R3:=@Int.le_of_mul_le_mul_left
def iP:=@List.all_cons
def N3:=@List.append_nil
def B4:=@List.contains_cons
def S':=@List.contains_nil
def aL:=@List.ext_getElem?
def q5:=@List.filter_append
def bE:=@List.getElem?_eq_none
def bH:=@List.getElem?_range
def q6:=@List.getElem?_set_ne
def M1:=@List.length_append
def V0:=@List.length_filter_le
def hG:=@List.length_nil
def FA:=@List.mem_append_right
def eT:=@List.mem_cons_self
def y2:=@List.mem_singleton
def eU:=@List.nodup_cons
def hW:=@Option.getD_some
end Go
namespace Go.Proofs
open Go.RowKit
variable {M:Nat->Prop} {A B W W':World}
structure Lie (M:Nat->Prop)(W W':World):Prop where
 size:W.heap.size<=W'.heap.size
 same:∀k,k<W.heap.size->¬M k->W'.heap[k]?=W.heap[k]?
def Lie.refl(M:Nat->Prop)(W:World):Lie M W W:=⟨h' _,fun _ _ _=>rfl⟩
def Lie.trans{C:World} (h:Lie M A B)(k:Lie M B C):Lie M A C:=⟨w7 h.size k.size,fun i d f=>(k.same i (h8 d h.size) f).trans (h.same i d f)⟩
def Lie.mono{d:Nat->Prop} (h:Lie M A B)(hm:∀k,k<A.heap.size->M k->d k):Lie d A B:=⟨h.size,fun k f i=>h.same k f fun e=>i (hm k f e)⟩
def Lie.of_below(M:Nat->Prop)(h:QB W W'):Lie M W W':=⟨h.size,fun k d _=>h.block k d⟩
def Lie.of_grown{a:Option Nat} (h:W.grownBy W' a)(i:∀r,a=some r->M r):Lie M W W':=⟨h.size,fun k d f=>h.block k d fun e=>f (i k e.symm)⟩
def Lie.putObj(W:World)(l:Nat)(o:Obj)(h:M l):Lie M W (W.putObj l o):=.of_grown (iD W l o) fun r e=>by cases e;exact h
def Lie.obj(h:Lie M W W') {k:Nat} {o:Obj} (f:¬M k)(d:W.heap[k]?=some o):W'.heap[k]?=some o:=(h.same k (bO.1 d).1 f).trans d
def sG{α:Type} (d:α->Nat->Prop)(B:Nat)(J:List α->(Nat->Prop)->World->Prop):Prop:=∀s T W W' a,J s T W->W.grownBy W' a->(∀r,a=some r->B<=r/\¬T r/\∀x∈s,¬d x r)->J s T W'
def AB{α:Type} (F:Fence)(n:Nat)(P:Program)(g:Nat)(b:Array Value)(h:α->Array Value)(o:α->Nat->Prop)(M:Nat->Prop)(p:List α->α->World->Prop)(S s:List α->Prop)(N:Nat)(w:World):Prop:=∀(l:Nat)(J m:List α->(Nat->Prop)->World->Prop)(W:World),QB w W->w.heap.size<=l->l<W.heap.size->sG o W.heap.size J->sG o W.heap.size m->(∀d T x f,J d T f->(∀r,T r->W.heap.size<=r/\r<f.heap.size)->(∀y∈d++[x],∀r,o y r->W.heap.size<=r)->d.length<N->p d x f->YieldAt F (n-1) P l (h x) f fun e W'=>∃i,(∀r,i r->T r∨f.heap.size<=r)/\(∀r,i r->r<W'.heap.size)/\Lie (fun k=>M k∨T k∨k=l) f W'/\((e=.returned true/\J (d++[x]) i W')∨(e=.returned false/\m (d++[x]) i W')))->J [] (fun _=>False) W->CallsIn F n P g (#[.func (.yield l) #[] #[]]++b) W fun e W'=>(∃v,e=.returned v)/\((∃a T,S a/\J a T W')∨(∃d T,s d/\m d T W'))
def T5{α:Type} (M T:Nat->Prop)(I:List α->(Nat->Prop)->World->Prop)(f:Code->List α->(Nat->Prop)->World->Prop)(a:List α)(W:World):Exit->Act->World->Prop|.normal,_,W'=>∃d,(∀r,d r->T r∨W.heap.size<=r)/\(∀r,d r->r<W'.heap.size)/\Lie (fun k=>M k∨T k) W W'/\I a d W'|.ret,_,W'=>∃d,(∀r,d r->T r∨W.heap.size<=r)/\(∀r,d r->r<W'.heap.size)/\Lie (fun k=>M k∨T k) W W'/\f .ret a d W'|.exit id,_,W'=>∃d,(∀r,d r->T r∨W.heap.size<=r)/\(∀r,d r->r<W'.heap.size)/\Lie (fun k=>M k∨T k) W W'/\f (.exit id) a d W'|.goto t,_,W'=>∃d,(∀r,d r->T r∨W.heap.size<=r)/\(∀r,d r->r<W'.heap.size)/\Lie (fun k=>M k∨T k) W W'/\f (.goto t) a d W'|.panic _,_,_=>False|.outgrown,_,_=>False
variable {F:Fence} {n:Nat} {P:Program}
def AD{α:Type} {g:Operand} {ps:Array Tmp} {assign body:Code} {Q:Exit->Act->World->Prop} {a:Act} {w:World} (bE:F.round=none)(h1:1<=n) {gf:Nat} {lb:Array Value} (hg:a.eval g=.func (.func gf) #[] lb)(aR:F.fn gf)(eg:∀args w,(callFunc gf args).run P w=.ok (.enter gf args) w) {X:α->Array Value} {gv:α->Nat->Prop} {Ok:List α->α->World->Prop} {S Sp:List α->Prop} {N:Nat} (aQ:AB F (n-1) P gf lb X gv M Ok S Sp N w)(hM:∀k,M k->k<w.heap.size)(bD:∀x,(X x).size=ps.size)(I:List α->(Nat->Prop)->World->Prop)(Ix:Code->List α->(Nat->Prop)->World->Prop)(Ax:List α->(Nat->Prop)->α->Act->World->Prop)(hI:sG gv w.heap.size I)(hIx:∀c,sG gv w.heap.size (Ix c))(hAx:∀d T x a (W:World)(l:Nat)(o o':Obj),w.heap.size<=l->¬T l->(∀y∈d++[x],¬gv y l)->W.heap[l]?=some o->o.isCells=false->Ax d T x a W->Ax d T x a (W.putObj l o'))(h0:I [] (fun _=>False) w)(aB:∀(l:Nat)(d:List α)(T:Nat->Prop)(x:α)(W:World),I d T W->(∀r,T r->w.heap.size<=r/\r<W.heap.size)->d.length<N->Ok d x W->(∀y∈d++[x],∀r,gv y r->w.heap.size<=r)->assign.wpIn (F.inRound l) (n-1-1) P (Exit.then (fun a₁ W₁=>Lie (fun k=>M k∨T k) W W₁/\Ax d T x a₁ W₁) (fun _ _ _=>False)) {tmps:=(ps.zip (X x)).foldl (fun t (p,v)=>t.setIfInBounds p v) a.tmps,defers:=[]} W)(aJ:∀(l:Nat) (d:List α) (T:Nat->Prop) (x:α) (a₁:Act) (W:World),Ax d T x a₁ W->(∀r,T r->w.heap.size<=r/\r<W.heap.size)->d.length<N->body.wpIn (F.inRound l) (n-1-1) P (T5 M T I Ix (d++[x]) W) a₁ W)(aK:∀(D:Nat)(xs:List α)(T:Nat->Prop)(W:World),S xs->I xs T W->D=w.heap.size->W.heap[D]?=some (.deferred (some []))->Q .normal {a with defers:={target:=.collected D,args:=#[]}::a.defers} W)(aM:∀(D:Nat)(c:Code)(d:List α)(T:Nat->Prop)(W:World),Sp d->Ix c d T W->D=w.heap.size->W.heap[D]?=some (.deferred (some []))->c.wpIn F n P Q {a with defers:={target:=.collected D,args:=#[]}::a.defers} W):(Code.rangeFunc g ps assign body).wpIn F n P Q a w:=by
 refine wpIn_rangeFunc ?_;intro fn aX;rw[bE];obtain⟨i,m⟩:∃i:LoopState->Option Code->Loop,i=fun st pe=>{state:=st,pending:=pe,fn,tmps:=a.tmps,params:=ps,assign,body,defers:=w.heap.size}:=⟨_,rfl⟩;obtain⟨Z,aA⟩:=Qu ((w.alloc (.deferred (some []))).alloc (.loop (i .ready none)));have bG:Z.heap.size=w.heap.size+2:=by rw[<-aA];simp
 have aU:Z.heap[w.heap.size+1]?=some (.loop (i .ready none)):=by rw[<-aA];have:=uN (w.alloc (.deferred (some []))) (.loop (i .ready none));rwa [hU]at this
 have aT:Z.heap[w.heap.size]?=some (.deferred (some [])):=by rw[<-aA];exact(pF _ _ _ Qd).trans (uN w _)
 have aS:I [] (fun _=>False) Z:=by rw[<-aA];refine hI _ _ _ _ none (hI _ _ _ _ none h0 (uO w _ none) (fun r e=>by cases e)) (uO _ _ none) (fun r e=>by cases e)
 have aW:QB w Z:=by rw[<-aA];exact((q' _ w).alloc (h' _) _).alloc Qd _
 refine⟨w.heap.size+1,[{target:=.collected w.heap.size,args:=#[]}],Z,{target:=.fn (.func gf) lb,args:=#[.func (.yield (w.heap.size+1)) #[] #[]]},Z,gf,#[.func (.yield (w.heap.size+1)) #[] #[]]++lb,Z,?_,?_,?_,?_,fun _=>h1,?_⟩;·rw[<-aA,m];exact run_enterLoop_outer _ _ _ _ _
 .simp only[resolve,hg];simp[go_sem]
 .intro f' aO;simp[Target.leads]at aO;subst aO;exact aR
 .simp[invoke,go_sem,eg]
 .have Y:∀{A B:World} {b:Option Nat} {k:Nat} {o:Obj},A.grownBy B b->(∀r,b=some r->Z.heap.size<=r)->k<w.heap.size+2->A.heap[k]?=some o->B.heap[k]?=some o:=fun H J hk ho=>by rw[H.block _ (bO.1 ho).1 (fun e=>by have:=J _ e.symm;omega),ho]
  have G:∀{K:List α->(Nat->Prop)->World->Prop},sG gv w.heap.size K->∀{s T W} (o:Obj),K s T W->(∀r,T r->w.heap.size+2<=r)->(∀y∈s,∀r,gv y r->w.heap.size+2<=r)->K s T (W.putObj (w.heap.size+1) o):=fun hK s T W o hs L hv=>hK _ _ _ _ _ hs (iD W _ o) fun r e=>by cases e;exact⟨Qa,fun h=>by have:=L _ h;omega,fun y q h=>by have:=hv y q _ h;omega⟩
  refine(aQ (w.heap.size+1)
   (fun d T W=>I d T W/\W.heap[w.heap.size+1]?=some (.loop (i .ready none))/\W.heap[w.heap.size]?=some (.deferred (some []))/\(∀r,T r->w.heap.size+2<=r)/\(∀y∈d,∀r,gv y r->w.heap.size+2<=r))
   (fun d T W=>∃c,Ix c d T W/\W.heap[w.heap.size+1]?=some (.loop (i .done (some c)))/\W.heap[w.heap.size]?=some (.deferred (some []))/\(∀r,T r->w.heap.size+2<=r)/\(∀y∈d,∀r,gv y r->w.heap.size+2<=r)) Z aW Qa Qa
   (fun s T A B b hs H J=>⟨hI s T A B b hs.1 H (fun r e=>by have:=J r e;exact⟨Qa,this.2⟩),Y H (fun r e=>(J r e).1) Qa hs.2.1,Y H (fun r e=>(J r e).1) Qa hs.2.2.1,hs.2.2.2⟩)
   (fun s T A B b hs H J=>by obtain⟨c,hc,hl,hk,bF⟩:=hs;exact⟨c,hIx c s T A B b hc H (fun r e=>by have:=J r e;exact⟨Qa,this.2⟩),Y H (fun r e=>(J r e).1) Qa hl,Y H (fun r e=>(J r e).1) Qa hk,bF⟩) ?_ ⟨aS,aU,aT,fun r h=>h.elim,fun y q=>by cases q⟩).mono ?_
  .rintro d T x W ⟨hi,hl,hk,aE,bH⟩ hT aY aH aP;have q:=run_yield (P:=P) (args:=X x) hl (by rw[m];exact bD x);rw[m]at q;have aI:∀r,T r->w.heap.size<=r/\r<W.heap.size:=fun r h=>⟨by have:=aE r h;omega,(hT r h).2⟩;have u:∀y∈d++[x],∀r,gv y r->w.heap.size+2<=r:=fun y q r h=>by have:=aY y q r h;omega
   have aL:¬(M (w.heap.size+1)∨T (w.heap.size+1)):=by
    rintro(h|h);·have:=hM _ h;omega
    .have:=aE _ h;omega
   have aN:¬(M w.heap.size∨T w.heap.size):=by
    rintro(h|h);·have:=hM _ h;omega
    .have:=aE _ h;omega
   refine⟨fn,_,assign,body,q,roundIn_of_wpIn aX (wpIn_mono (aB _ d T x W hi aI aH aP (fun y q r h=>by have:=u y q r h;omega)) ?_)⟩;rintro e a2 W2 hp;cases e with
   |normal=>
    obtain⟨ko,hx⟩:=hp;have aF:=ko.obj aL hl;have aZ:=ko.obj aN hk;have bC:w.heap.size+1<W2.heap.size:=(bO.1 aF).1;have bB:(W2.putObj (w.heap.size+1) (.loop {i .ready none with state:=.busy})).heap[w.heap.size+1]?=some (.loop {i .ready none with state:=.busy}):=IL bC;have bA:(W2.putObj (w.heap.size+1) (.loop {i .ready none with state:=.busy})).heap[w.heap.size]?=some (.deferred (some [])):=(x8 Qa).trans aZ;refine⟨_,run_beginRound aF (by rw[m]),?_⟩;refine wpIn_mono (aJ _ d T x a2 _ (hAx d T x a2 _ _ _ _ Qa (fun h=>aL (.inr h)) (fun y q h=>by have:=u y q _ h;omega) aF rfl hx) (fun r h=>⟨(aI r h).1,by rw[kE];exact h8 (aI r h).2 ko.size⟩) aH) ?_;have st:Lie (fun k=>M k∨T k∨k=w.heap.size+1) W (W2.putObj (w.heap.size+1) (.loop {i .ready none with state:=.busy})):=(ko.mono (fun k _ h=>by rcases h with h|h;exact .inl h;exact .inr (.inl h))).trans (Lie.putObj _ _ _ (.inr (.inr rfl)));have aC:∀(f:Option Code) (j:World),Lie (fun k=>M k∨T k) (W2.putObj (w.heap.size+1) (.loop {i .ready none with state:=.busy})) j->(Instr.endRound (w.heap.size+1) f).run P j=.ok (.bool f.isNone) (j.putObj (w.heap.size+1) (.loop (i (if f.isNone then .ready else .done) f)))/\(j.putObj (w.heap.size+1) (.loop (i (if f.isNone then .ready else .done) f))).heap[w.heap.size+1]?=some (.loop (i (if f.isNone then .ready else .done) f))/\(j.putObj (w.heap.size+1) (.loop (i (if f.isNone then .ready else .done) f))).heap[w.heap.size]?=some (.deferred (some []))/\Lie (fun k=>M k∨T k∨k=w.heap.size+1) W (j.putObj (w.heap.size+1) (.loop (i (if f.isNone then .ready else .done) f))):=fun f j z=>by have E:=z.obj aL bB;have:=run_endRound (P:=P) f E;rw[m]at this |-;refine⟨this,IL (bO.1 E).1,(x8 Qa).trans (z.obj aN bA),?_⟩;rw[m]at st;rw[m]at z;exact(st.trans (z.mono (fun k _ h=>by rcases h with h|h;exact .inl h;exact .inr (.inl h)))).trans (Lie.putObj _ _ _ (.inr (.inr rfl)))
    have aG:W.heap.size<=(W2.putObj (w.heap.size+1) (.loop {i .ready none with state:=.busy})).heap.size:=by rw[kE];exact ko.size
    have aD:∀O:Nat->Prop,(∀r,O r->T r∨(W2.putObj (w.heap.size+1) (.loop {i .ready none with state:=.busy})).heap.size<=r)->∀r,O r->w.heap.size+2<=r:=fun O h r J=>by
     rcases h r J with h|h;·exact aE r h
     .have:=ko.size;rw[kE]at h;have:Z.heap.size<=W.heap.size∨True:=.inr trivial;have:=(bO.1 aF).1;omega
    rintro e a3 j hp;cases e with
    |normal=>obtain⟨O,C,t2,z,R⟩:=hp;obtain⟨J,E,U,V⟩:=aC none j z;have L:=aD O C;exact⟨_,_,J,O,fun r h=>(C r h).imp id (w7 aG),fun r h=>by rw[kE];exact t2 r h,V,.inl ⟨rfl,G hI _ R L u,E,U,L,u⟩⟩|ret=>obtain⟨O,C,t2,z,R⟩:=hp;obtain⟨J,E,U,V⟩:=aC (some .ret) j z;have L:=aD O C;exact⟨_,_,J,O,fun r h=>(C r h).imp id (w7 aG),fun r h=>by rw[kE];exact t2 r h,V,.inr ⟨rfl,.ret,G (hIx _) _ R L u,E,U,L,u⟩⟩|exit id=>obtain⟨O,C,t2,z,R⟩:=hp;obtain⟨J,E,U,V⟩:=aC (some (.exit id)) j z;have L:=aD O C;exact⟨_,_,J,O,fun r h=>(C r h).imp (fun h=>h) (w7 aG),fun r h=>by rw[kE];exact t2 r h,V,.inr ⟨rfl,.exit id,G (hIx _) _ R L u,E,U,L,u⟩⟩|goto t=>obtain⟨O,C,t2,z,R⟩:=hp;obtain⟨J,E,U,V⟩:=aC (some (.goto t)) j z;have L:=aD O C;exact⟨_,_,J,O,fun r h=>(C r h).imp id (w7 aG),fun r h=>by rw[kE];exact t2 r h,V,.inr ⟨rfl,.goto t,G (hIx _) _ R L u,E,U,L,u⟩⟩|panic ch=>exact hp.elim|outgrown=>exact hp.elim
   |_=>exact hp.elim
  .rintro e W2 ⟨⟨v,rfl⟩,(⟨xs,T,hS,hi,hl,hk,L,hv⟩|⟨d,T,aV,c,hi,hl,hk,L,hv⟩)⟩;·exact⟨none,_,by have:=run_endLoop (P:=P) hl (by rw[m];simp);rw[m]at this;exact this,aK _ xs T _ hS (G hI _ hi L hv) rfl ((x8 Qa).trans hk)⟩
   .exact⟨some c,_,by have:=run_endLoop (P:=P) hl (by rw[m];simp);rw[m]at this;exact this,aM _ c d T _ aV (G (hIx c) _ hi L hv) rfl ((x8 Qa).trans hk)⟩
section
variable {ops:Array Oper} {md:Region.Mode} {C:World->Prop}
end
variable {l:List Nat} {k x j a q:Nat} {W W':World}
attribute [local go_sem] Oper.semAt_some structure ChV where
 b:Nat
 l:List Nat
def nF(x:ChV):Array Value:=#[.slice (some x.b) x.l.length x.l.length]
def ZI(l:List Nat):List Int:=l.map fun(a:Nat)=>(a:Int)
def gvN{α:Type} (_:α)(_:Nat):Prop:=False
def Q3(l:List Nat):(ZI l).length=l.length:=by simp[ZI]
def p5{x:Nat} (h:l[k]?=some x):(ZI l)[k]?=some (x:Int):=by simp[ZI,h]
def IN(l:List Nat)(k x:Nat):(ZI l).set k (x:Int)=ZI (l.set k x):=by simp[ZI,jC]
def ZO.grown{T:TypeId} {B:Nat} {l:List Int} (h:ZO T W B l) {M:Nat->Prop} (d:Lie M W W')(hB:¬M B):ZO T W' B l:=d.obj hB h
def IP(b:QB W W'):W.grownBy W' none:=⟨b.os,b.tape,b.output,b.size,fun k d _=>b.block k d⟩
def IQ(W:World) (B o:Nat) (v:Value):W.grownBy (W.setCell ⟨B,o,none⟩ v) (some B):=⟨rfl,rfl,rfl,Qd,fun k f d=>hH W _ v k fun e=>d (by rw[e])⟩
structure ChI (n k:Nat)(M:Nat->Prop)(w:World)(J:List ChV->(Nat->Prop)->World->Prop)(W0 B B1 B2:Nat)(i:Nat)(l:List Nat)(wr:World)(pre:List ChV)(T:Nat->Prop):Prop where
 plen:pre.length=i
 pre_:pre.map ChV.l=(cmb 0 n k).take i
 now:(cmb 0 n k)[i]?=some l
 mem:ZO 3 wr B (ZI l)
 jj:J pre T wr
 tt:∀r,T r->W0<=r/\r<wr.heap.size/\r≠B
 c1:wr.heap[B1]?=some (.cells #[.int .i64 k] 3 (0,0))
 c2:wr.heap[B2]?=some (.cells #[.int .i64 n] 3 (0,0))
 sz:W0<=B/\B<wr.heap.size
def D6(k j:Nat):List Int:=ZI (List.range' 0 j)++List.replicate (k-j) 0
def T6{j:Nat} (h:j<k):(D6 k j).set j (j:Int)=D6 k (j+1):=by unfold D6;rw[hZ _ _ (by simp[ZI]),zR,show k-j=(k-(j+1))+1 by omega,l6];simp[ZI]
def T7(h:j<=k):(D6 k j).length=k:=by simp[D6,ZI];omega
def T8(k:Nat):D6 k k=ZI (List.range' 0 k):=by simp[D6]
def fZ(l:List Nat) (a x q:Nat):List Nat:=l.take a++List.range' (x+1) (q-a)++l.drop q
def UA(h:a<l.length):l.set a (x+1)=fZ l a x (a+1):=by unfold fZ;rw[show a+1-a=1 by omega];simp[List.set_eq_take_append_cons_drop,h]
def UB(h:a<q)(b:q<l.length):(fZ l a x q).set q (x+(q-a)+1)=fZ l a x (q+1):=by unfold fZ;rw[n7,hZ _ _ Qk,C3,hZ _ _ Qk,List.length_range',show q-min a l.length-(q-a)=0 by omega,l4 b,List.set_cons_zero,show q+1-a=(q-a)+1 by omega,zR];simp;omega
def UC(h:a<q)(b:q<=l.length):(fZ l a x q).length=l.length:=by simp[fZ];omega
def UD(h:a<q)(b:q<=l.length):(fZ l a x q)[q-1]?=some (x+(q-a)):=by unfold fZ;rw[n7,aO Qk,C3,aM Qk];rw[List.getElem?_range' Qa];congr 1;omega
def UE:fZ l a x l.length=l.take a++List.range' (x+1) (l.length-a):=by simp[fZ]
variable {w:World} {b T:Nat} {cs:List Value}
def boolL(n:Nat)(z:List Nat):List Value:=(List.range n).map fun i=>.bool (decide (i∈z))
def Z5(i d h f:Value)(z t:List Nat):List Value:=i::d::h::f::(boolL 5 z++boolL 8 t)
def nG(n k:Nat)(z:List Nat)(h:k<n):(boolL n z)[k]?=some (.bool (decide (k∈z))):=by simp[boolL,bH h]
def uS(m d i f:Value)(z t:List Nat)(k:Nat)(h:k<5):(Z5 m d i f z t)[4+k]?=some (.bool (decide (k∈z))):=by rw[aD];show (boolL 5 z++boolL 8 t)[k]?=_;rw[aM (by simp[boolL];exact h),nG 5 k z h]
def IS(c d i f:Value)(z t:List Nat)(k:Nat)(h:k<8):(Z5 c d i f z t)[9+k]?=some (.bool (decide (k∈t))):=by rw[aD,show k+9=(k+5)+4 by omega];show (boolL 5 z++boolL 8 t)[k+5]?=_;rw[aO (by simp[boolL]),show k+5-(boolL 5 z).length=k by simp[boolL],nG 8 k t h]
def AE(n x:Nat)(z:List Nat)(h:x<n):(boolL n z).set x (.bool true)=boolL n (z++[x]):=by
 apply aL;intro j;rw[bC];by_cases d:j<n
 .rw[nG n j _ d,nG n j _ d];by_cases e:x=j;·subst e;simp[boolL,h]
  .rw[Zc9 e];have:¬j=x:=fun h=>e h.symm;simp[this]
 .have f:(boolL n z)[j]?=none:=bE (by simp[boolL];omega);have i:(boolL n (z++[x]))[j]?=none:=bE (by simp[boolL];omega);rw[f,i,Zc9 Qa]
def UF(c d i f:Value) (z t:List Nat) (x:Nat) (h:x<5):(Z5 c d i f z t).toArray.setIfInBounds (4+x) (.bool true)=(Z5 c d i f (z++[x]) t).toArray:=by rw[zS,aD 4 x];congr 1;show c::d::i::f::(boolL 5 z++boolL 8 t).set x (.bool true)=_;rw[List.set_append_left _ _ (by simp[boolL];exact h),AE 5 x z h];rfl
def UG(c d i f:Value) (z t:List Nat) (x:Nat) (h:x<8):(Z5 c d i f z t).toArray.setIfInBounds (9+x) (.bool true)=(Z5 c d i f z (t++[x])).toArray:=by rw[zS,aD 9 x,show x+9=(x+5)+4 by omega];congr 1;show c::d::i::f::(boolL 5 z++boolL 8 t).set (x+5) (.bool true)=_;rw[hZ _ _ (by simp[boolL]),show x+5-(boolL 5 z).length=x by simp[boolL],AE 8 x t h];rfl
def UH(c d h f v:Value)(z t:List Nat):(Z5 c d h f z t).toArray.setIfInBounds 2 v=(Z5 c d v f z t).toArray:=by simp[Z5]
def UI(c d f h v:Value)(z t:List Nat):(Z5 c d f h z t).toArray.setIfInBounds 3 v=(Z5 c d f v z t).toArray:=by simp[Z5]
def x5(h:w.heap[b]?=some (.cells cs.toArray T)) {k:Nat} {v:Value} (d:cs[k]?=some v):w.cell? ⟨b,k,none⟩=some v:=by unfold World.cell?;simp only[h];simpa using d
def rY(h:w.heap[b]?=some (.cells cs.toArray T))(k:Nat):w.frozen? ⟨b,k,none⟩=false:=by unfold World.frozen?;simp only[h];simp
def F'{c d i f:Value} {z t:List Nat} (h:w.heap[b]?=some (.cells (Z5 c d i f z t).toArray 105 (0,0))):w.cell? b=some c/\w.cell? ⟨b,1,none⟩=some d/\w.cell? ⟨b,2,none⟩=some i/\w.cell? ⟨b,3,none⟩=some f/\w.frozen? ⟨b,2,none⟩=false/\w.frozen? ⟨b,3,none⟩=false/\b<w.heap.size:=⟨x5 h rfl,x5 h rfl,x5 h rfl,x5 h rfl,rY h 2,rY h 3,ZE h⟩
def UJ(c:Nat)(l:List Nat)(x:Nat):zerosL c (l++[x])=if x<c then zerosL c l++[x]else zerosL c l:=by unfold zerosL;rw[q5];by_cases h:x<c<;>simp[h]
def UK(c:Nat)(l:List Nat)(x:Nat):tightL c (l++[x])=if x<c then tightL c l else tightL c l++[x-c]:=by
 unfold tightL;rw[q5];by_cases h:x<c
 .have:¬c<=x:=Qa
  simp[h,this]
 .have:c<=x:=Qa
  simp[h,this]
structure BasI (base bb:Nat)(pv ev:Value)(z t:List Nat)(zv tv:Value)(wr:World):Prop where
 blk:wr.heap[bb]?=some (.cells (Z5 pv ev zv tv z t).toArray 105 (0,0))
 oz:wr.ownsRow base 3 1 zv z.length ((ZI z).map (Value.int .i64))
 ot:wr.ownsRow base 3 1 tv t.length ((ZI t).map (Value.int .i64))
 ap:∀g,zv.ownBlock=some g->tv.ownBlock≠some g
variable {w:World} {base c:Nat} {v:Value} {xs:List IR}
structure RowsOwn (wr:World)(base:Nat)(v:Value)(xs:List IR):Prop where
 own:wr.ownsRow base 30 1 v xs.length (xs.map fun x=>.slice x.A x.l.length x.c)
 row:∀x∈xs,At 1 Zc wr x.A x.l/\∀g,x.A=some g->base<=g.block/\g.block<wr.heap.size/\some g.block≠v.ownBlock
def RowsOwn.nil(wr:World)(base:Nat):RowsOwn wr base (.slice none 0 0) []:=⟨hM _ _ _ _,fun x h=>by cases h⟩
def RowsOwn.below{w':World} (h:RowsOwn w base v xs)(hb:QB w w'):RowsOwn w' base v xs:=⟨ZL h.own hb,fun x d=>⟨(h.row x d).1.below hb,fun g f=>by have:=(h.row x d).2 g f;exact⟨this.1,h8 this.2.1 hb.size,this.2.2⟩⟩⟩
def RowsOwn.rowsAt{A:Option Addr} {n:Nat} (h:RowsOwn w base (.slice A n c) xs):h3 w A xs:=by refine⟨fun k x f=>?_,fun x f=>(h.row x f).1⟩;have i:=h.own;obtain⟨r,s,e⟩:=Z2 i;cases e;obtain⟨g,p,-,m,o⟩:=W5 i (k:=k) (u:=.slice x.A x.l.length x.c) (by rw[k3,f];rfl);refine⟨g,0,p,m,fun j v d=>?_⟩;cases j with|zero=>simp[IR.cs]at d;subst d;simpa using o|succ j=>simp[IR.cs]at d
def RowsOwn.push{p I:World} (h:RowsOwn w base v xs)(E:QB w p) {x:IR} {G:Addr} (r:x.A=some G)(m:At 1 Zc p x.A x.l)(J:base<=G.block)(s:G.block<p.heap.size)(z:some G.block≠v.ownBlock)(d:p.grownBy I v.ownBlock) {g cap:Nat} (R:I.ownsRow base 30 1 (.slice (some g) (xs.length+1) cap) (xs.length+1) ((xs.map fun x=>Value.slice x.A x.l.length x.c)++[.slice x.A x.l.length x.c])) (L:v.ownBlock=some g∨g=p.heap.size):RowsOwn I base (.slice (some g) (xs.length+1) cap) (xs++[x]):=by
 have D:∀k,k<p.heap.size->some k≠v.ownBlock->some k≠some g:=fun k V K e=>by
  rcases L with h|h;·exact K (e.trans h.symm)
  .cases e;omega
 have f:∀(A:Option Addr)(l:List Int),At 1 Zc p A l->(∀g,A=some g->some g.block≠v.ownBlock)->At 1 Zc I A l:=fun A l m Q k y i=>by obtain⟨b,o,r,t,O⟩:=m k y i;refine⟨b,o,r,h8 t d.size,fun j u S=>?_⟩;rw[<-O j u S];exact P0 (a:=⟨b,o+k*1+j,none⟩) (d.block b t (Q _ r))
 refine⟨?_,fun y i=>?_⟩;·rw[M1,b3];exact R
 .rcases C1.1 i with i|i;·obtain⟨U,N⟩:=h.row y i;refine⟨f _ _ (U.below E) fun g d=>(N g d).2.2,fun a H=>?_⟩;obtain⟨Z,q2,q3⟩:=N a H;have C:=h8 q2 E.size;exact⟨Z,h8 C d.size,D _ C q3⟩
  .rw[y2]at i;subst i;refine⟨f _ _ m fun g d=>?_,fun a H=>?_⟩;·rw[r]at d;cases d;exact z
   .rw[r]at H;cases H;exact⟨J,h8 s d.size,D _ s z⟩
def IT(es:List Ex)(z t:List Nat):∀(d:List Int)(k:Nat)(w:Int),proofRows es z t k (d++[w])=proofRows es z t k d++if k+d.length∈z then []else [e3 es t (k+d.length) w]
 |[],k,w=>by simp only[s0,proofRows,hG,sW]|v::d,k,w=>by
  have:=IT es z t d (k+1) w;rw[show k+1+d.length=k+(v::d).length by simp only[r3];omega]at this;simp only[hP,proofRows];split;·exact this
  .rw[this];rfl
def kO(es:List Ex)(t:List Nat)(c j:Nat):List Int:=1::(t.take j).map fun i=>-((es.getD i default).1.getD c 0)
def UL{es:List Ex} {t:List Nat} {j i:Nat} (h:t[j]?=some i):kO es t c (j+1)=kO es t c j++[-((es.getD i default).1.getD c 0)]:=by unfold kO;rw[w9,h];simp
def UM(es:List Ex)(t:List Nat)(c:Nat)(w:Int):kO es t c t.length++[w]=e3 es t c w:=by simp[kO,e3]
def Tryz.info31:(Tryz.prog.info? 30).map (fun i=>(i.zero,i.size,i.bytes))=some (some (.slice none 0 0),1,24):=Qb
section
variable {P:Program}
def spG(d:Array Oper)(e:List Nat):Bool:=e.all fun j=>match d[j]? with|some _=>true|none=>false
def AF{Q:Exit->Act->World->Prop} {a0:Act} {w:World} {l:List Oper} (w0:World)(C:World->Prop)(sp:List Nat)(K:Nat->Gh->Value)(J:(Nat->Bool)->(Nat->Gh)->World->Prop)(z:(Nat->Gh)->Act)(hB:bK l.toArray=true)(hB':∀g,bK (mixL sp K g 0 l).toArray=true)(hS:Region.noSelect l.toArray=true)(hN:spG l.toArray sp=true)(hC0:C w)(hCs:∀x R,C x->QB x R->C R)(hCw:∀x,C x->QB w0 x)(h0:∀L,(∀j∈sp,L j=false)->J L (fun _=>Gh.zero) w)(hst:∀L L' g x R,(∀j∈sp,L' j=L j)->J L g x->QB x R->J L' g R)(hq:∀g u,C u->(∀(x:Grew u)(b o:Nat),b<u.heap.size->x.val.cell? ⟨b,o,none⟩=u.cell? ⟨b,o,none⟩)->Hid (∀x:Grew u,QB w0 x.val)->Hid (∀x:Grew u,C x.val)->wpQuiet P (mixL sp K g 0 l).toArray (fun w'=>∃x:Grew u,w'=x.val) (fun a'=>a'=z g) (mixL sp K g 0 l) a0)(hind:∀j∈sp,∀g h,bM (bR l.toArray j 0 l []) 0 (z g).tmps.toList=bM (bR l.toArray j 0 l []) 0 (z (upd g j h)).tmps.toList)(hwa:∀g,∀j∈sp,∀o,l.toArray[j]?=some o->Region.wanted o (yielded l.toArray (z g).tmps)=true)(hsp:∀j∈sp,∀o,l[j]?=some o->∀(L:Nat->Bool)(g:Nat->Gh)(x:World),J L g x->C x->QB w0 x->L j=false->(∀e∈o.after,Region.binds .any e=true->L e.on=true)->(∀(i:Nat)(o:Oper),l[i]?=some o->L i=true->∀e∈o.after,Region.binds .any e=true->L e.on=true)->bT P (fun v R=>C R/\((o.dst=none/\J (bU L j) g R)∨∃h,v=K j h/\J (bU L j) (upd g j h) R)) ((execOp (z g).eval o).run P x))(hend:∀g x,J (fun _=>true) g x->C x->QB w0 x->Q .normal (z g) x):wpAny P .any l.toArray Q l.toArray.size (Array.replicate l.toArray.size false) a0 {w with drawn:=w.drawn+1}:=by
 have H:=IA hB;have H':=fun g=>IA (hB' g);have aA:=yM hS;have N:∀g (j:Nat),(mixL sp K g 0 l).toArray[j]?=(l.toArray[j]?).map fun o=>if sp.contains j then yieldsC (K j (g j)) o else o:=fun g j=>by have:=F4 sp K g l 0 j;simpa using this
 have aI:∀(g:Nat->Gh)(j:Nat)(o:Oper),(if sp.contains j=true then yieldsC (K j (g j)) o else o).dst=o.dst:=fun g j o=>by split<;>rfl
 have bH:∀(g:Nat->Gh)(t:Array Value)(k:Nat),yielded (mixL sp K g 0 l).toArray t k=yielded l.toArray t k:=fun g t k=>by unfold yielded;rw[N];cases l.toArray[k]? with
  |none=>rfl|some o=>simp only[hD,iU,aI]
 have aX:∀(g:Nat->Gh)(o:Oper)(t:Array Value),Region.wanted o (yielded (mixL sp K g 0 l).toArray t)=Region.wanted o (yielded l.toArray t):=fun g o t=>by have:yielded (mixL sp K g 0 l).toArray t=yielded l.toArray t:=funext (bH g t);rw[this]
 have aS:∀(g:Nat->Gh)(j:Nat)(o:Oper) cs b,(mixL sp K g 0 l).toArray[j]?=some o->o.op≠.select cs b:=fun g j o cs b p=>by rw[N]at p;cases r:l.toArray[j]? with
  |none=>rw[r]at p;cases p|some o'=>
   rw[r]at p;simp only[hD,B3]at p;subst p;split;·simp[yieldsC]
   .exact aA j o' cs b r
 have O:=fun g u hu=>IB (H' g) (aS g) (mixL sp K g 0 l) 0 a0 (fun j=>Qd) (hq g u hu (fun x=>x.cell) (fun x=>hCw _ (hCs _ _ hu x.ok)) (fun x=>hCs _ _ hu x.ok));have S:∀g,a0.tmps.size=(z g).tmps.size:=fun g=>(O g w hC0).2.1;have aN:∀g,a0.defers=(z g).defers:=fun g=>(O g w hC0).2.2.1;have bE:∀(g:Nat->Gh)(s:Nat),(∀(j:Nat)(V:Oper),l.toArray[j]?=some V->V.dst≠some s)->a0.tmps[s]?=(z g).tmps[s]?:=fun g s Y=>(O g w hC0).2.2.2 s fun j V _ r X=>by rw[N]at r;cases aP:l.toArray[j]? with|none=>rw[aP]at r;cases r|some o'=>rw[aP]at r;simp only[hD,B3]at r;exact Y j o' aP (by rw[<-X,<-r];exact(aI g j o').symm)
 have aF:∀(g:Nat->Gh)(i:Nat)(o:Oper),i∉sp->l.toArray[i]?=some o->∀u,C u->∃v,YieldsIn P l.toArray (above u) o v (z g)/\∀s,o.dst=some s->s<(z g).tmps.size->(z g).tmps[s]?=some v:=by
  intro g i o hi p u hu;have hc:sp.contains i=false:=by simpa using hi
  have E:(mixL sp K g 0 l).toArray[i]?=some o:=by rw[N,p];simp[hi]
  obtain⟨v,hy,hv⟩:=(O g u hu).1 i o (e6 _) E;refine⟨v,?_,hv⟩;rw[TK];unfold YieldsIn at*;rwa [aX]at hy
 have aV:∀(g:Nat->Gh)(j:Nat)(o:Oper)(d:Nat),j∈sp->l.toArray[j]?=some o->o.dst=some d->d<(z g).tmps.size->(z g).tmps[d]?=some (K j (g j)):=by
  intro g j o d r p X y;have hc:sp.contains j=true:=by simpa using r
  have E:(mixL sp K g 0 l).toArray[j]?=some (yieldsC (K j (g j)) o):=by rw[N,p];simp[r]
  obtain⟨v,hy,hv⟩:=(O g w hC0).1 j _ (e6 _) E;have:=hv d X y;rw[this];rcases hy with⟨_,h2⟩|⟨h1,_⟩
  .have h3:=h2 w ⟨⟨w,q' _ _⟩,rfl⟩;unfold Oper.quietAt at h3;have h4:(execOp (z g).eval (yieldsC (K j (g j)) o)).run P w=.ok (.value (K j (g j))) w:=by unfold execOp yieldsC;rfl
   rw[h4]at h3;simp only[Oper.quietUpon]at h3;rw[h3.2]
  .rw[aX g,show Region.wanted (yieldsC (K j (g j)) o) (yielded l.toArray (z g).tmps)=Region.wanted o (yielded l.toArray (z g).tmps)from rfl,hwa g j r o p]at h1;cases h1
 have aM:∀(L:Nat->Bool),(∀(i:Nat)(o:Oper),l.toArray[i]?=some o->L i=true->∀e∈o.after,Region.binds .any e=true->L e.on=true)->∀j,L j=false->∀d∈bR l.toArray j 0 l [],∃(i:Nat)(o:Oper),l.toArray[i]?=some o/\o.dst=some d/\L i=false:=by
  intro L Z j r;refine IG (G:=fun d=>∃(i:Nat) (o:Oper),l.toArray[i]?=some o/\o.dst=some d/\L i=false) ?_ l 0 [] (fun k=>Qd) (fun d X=>by simp at X);intro i o d p X bD;refine⟨i,o,p,X,?_⟩;rcases bD with rfl|⟨s,Y,i',o',E,bB,hL⟩;·exact r
  .obtain⟨_,e,he,hb,aE⟩:=H.look i o s i' o' p Y E bB;cases aZ:L i with
   |false=>rfl|true=>have:=Z i o p aZ e he hb;rw[aE,hL]at this;cases this
 have aJ:∀(m:Array Bool)(a:Act)(x:World),m.size=l.toArray.size->E7 l.toArray C J z m a x->Region.ready .any l.toArray m=[]->Q .normal a x:=by
  rintro m a x hz ⟨hb,-,g,D,hJ⟩ hr;have hu:=TI H hz hr;rw[TJ D hu];have:(fun j=>m.getD j true)=fun _=>true:=funext fun j=>by
   by_cases r:j<l.toArray.size;·exact hu j r
   .simp[eM (show m.size<=j by omega)]
  rw[this]at hJ;exact hend g x hJ hb (hCw _ hb)
 have aT:∀(m:Array Bool)(a:Act)(x:World)(i:Nat),i∈Region.ready .any l.toArray m->E7 l.toArray C J z m a x->wpOp P l.toArray Q i (fun a' R=>E7 l.toArray C J z (m.setIfInBounds i true) a' R) a x:=by
  rintro m a x i hi ⟨hb,Z,g,D,hJ⟩;obtain⟨U,o,p,aG⟩:=fQ.1 hi;have aQ:=TG H D p hi;have aH:∀(i':Nat)(o':Oper),l.toArray[i']?=some o'->(m.setIfInBounds i true).getD i' true=true->∀e∈o'.after,Region.binds .any e=true->(m.setIfInBounds i true).getD e.on true=true:=by
   intro i' o' E hL e he aB;have bI:m.getD e.on true=true:=by
    by_cases aU:i=i';·subst aU;obtain rfl:o=o':=D3 (p.symm.trans E);exact lU (aG e he aB)
    .rw[gM true aU]at hL;exact Z i' o' E hL e he aB
   by_cases aE:i=e.on;·rw[aE,pW]
   .rw[gM true aE];exact bI
  by_cases I:i∈sp
  .have X:=hsp i I o (by simpa using p) _ g x hJ hb (hCw _ hb) U (fun e he aB=>lU (aG e he aB)) (fun i' o' E=>Z i' o' (by simpa using E));rw[<-zK (aA i o · · p) aQ]at X;unfold wpOp;simp only[p];have bF:Region.wanted o (yielded l.toArray a.tmps)=true:=by rw[zL aQ];exact hwa g i I o p
   rw[r4 bF];refine .inl (TM X ?_);rintro v R ⟨bA,hK⟩;refine⟨bA,aH,?_⟩;rw[TN];rcases hK with⟨bC,aK⟩|⟨h,rfl,aK⟩;·exact⟨g,IF H D p (fun s Y=>by rw[bC]at Y;cases Y),aK⟩
   .refine⟨upd g i h,⟨by rw[nB];exact D.1.trans ((S g).symm.trans (S _)),by rw[pU];exact D.2.1.trans ((aN g).symm.trans (aN _)),fun s Y=>?_⟩,aK⟩;by_cases aD:o.dst=some s
    .rw[aD];by_cases y:s<(z (upd g i h)).tmps.size;·rw[pV (by rw[D.1,<-S g,S (upd g i h)];exact y),aV _ i o s I p aD y];unfold upd;rw[r4 rfl]
     .rw[zN (by rw[D.1,<-S g,S (upd g i h)];exact y),eM Qa]
    .rw[nA aD];have aW:∀(j:Nat)(V:Oper),l.toArray[j]?=some V->V.dst=some s->m.getD j true=true:=fun j V r aC=>by
      have aO:i≠j:=by rintro rfl;obtain rfl:o=V:=D3 (p.symm.trans r);exact aD aC
      have:=Y j V r aC;rwa [gM true aO]at this
     rw[D.2.2 s aW];refine TL (hind i I g h) fun hc=>?_;obtain⟨j,V,r,aC,hL⟩:=aM (fun j=>m.getD j true) Z i U s hc;have:=aW j V r aC;rw[this]at hL;cases hL
  .obtain⟨v,hy,hv⟩:=aF g i o I p x hb;have bG:=zM (aA i o · · p) (fun s Y=>(aQ s Y).symm) hy;refine TH p bG (q' _ _) fun R aY=>⟨hCs _ _ hb aY,aH,g,IF H D p hv,?_⟩;refine hst _ _ g x R (fun j r=>?_) hJ aY;have aO:i≠j:=by rintro rfl;exact I r
   rw[gM true aO]
 have aR:∀(f:Nat)(m:Array Bool)(a:Act)(x:World),m.size=l.toArray.size->sV l.toArray.size m<=f->E7 l.toArray C J z m a x->wpAny P .any l.toArray Q f m a x:=by intro f;induction f with
  |zero=>
   intro m a x hz hf h;have hr:Region.ready .any l.toArray m=[]:=by rw[zT];intro i hi;obtain⟨U,o,p,_⟩:=fQ.1 hi;have:=IE (n:=l.toArray.size) (E5 p) U;omega
   exact⟨hr,aJ m a x hz h hr⟩|succ f ih=>intro m a x hz hf h;refine⟨fun hr=>aJ m a x hz h hr,fun i hi=>?_⟩;obtain⟨U,o,p,_⟩:=fQ.1 hi;have hl:=IE (n:=l.toArray.size) (E5 p) U;exact wpOp_mono (fun a' R h'=>ih _ a' R (by simpa using hz) Qa h') (aT m a x i hi h)
 have aL:∀j,j<l.length->(Array.replicate l.toArray.size false).getD j true=false:=fun j r=>by simp[r]
 refine aR _ _ _ _ Qd ?_ ⟨hCs _ _ hC0 (q' _ w).drew,fun i o p hL=>?_,fun _=>Gh.zero,⟨S _,aN _,fun s Y=>?_⟩,?_⟩;·unfold sV;exact w7 (V0 _ _) Qd
 .have y:=E5 p;simp only[M0]at y;rw[aL i y]at hL;cases hL
 .refine bE _ s fun j V r X=>?_;have:=Y j V r X;have y:=E5 r;simp only[M0]at y;rw[aL j y]at this;cases this
 .refine hst _ _ _ w _ (fun _ _=>rfl) (h0 _ fun j r=>?_) (q' _ w).drew;have:∃o,l.toArray[j]?=some o:=by unfold spG at hN;have:=bJ.1 hN j r;cases p:l.toArray[j]? with
   |none=>rw[p]at this;cases this|some o=>exact⟨o,rfl⟩
  obtain⟨o,p⟩:=this;have y:=E5 p;simp only[M0]at y;exact aL j y
def A6{Q:Exit->Act->World->Prop} {G:Act} {w:World} {l:List Oper} (E:World)(C:World->Prop)(D:List Nat)(p:Nat->Gh->Value)(J:(Nat->Bool)->(Nat->Gh)->World->Prop)(f:(Nat->Gh)->Act)(hB:bK l.toArray=true)(hB':∀g,bK (mixL D p g 0 l).toArray=true)(hS:Region.noSelect l.toArray=true)(hN:spB l.toArray D=true)(hC0:C w)(hCs:∀x d,C x->QB x d->C d)(hCw:∀x,C x->QB E x)(h0:∀L,(∀j∈D,L j=false)->J L (fun _=>Gh.zero) w)(hst:∀L t g x d,(∀j∈D,t j=L j)->J L g x->QB x d->J t g d)(hq:∀g u,C u->(∀(x:Grew u)(b o:Nat),b<u.heap.size->x.val.cell? ⟨b,o,none⟩=u.cell? ⟨b,o,none⟩)->Hid (∀x:Grew u,QB E x.val)->Hid (∀x:Grew u,C x.val)->wpQuiet P (mixL D p g 0 l).toArray (fun z=>∃x:Grew u,z=x.val) (fun y=>y=f g) (mixL D p g 0 l) G)(hind:∀j∈D,∀g h,bM (bR l.toArray j 0 l []) 0 (f g).tmps.toList=bM (bR l.toArray j 0 l []) 0 (f (upd g j h)).tmps.toList)(hsp:∀j∈D,∀o,l[j]?=some o->∀(L:Nat->Bool)(g:Nat->Gh)(x:World),J L g x->C x->QB E x->L j=false->(∀e∈o.after,Region.binds .any e=true->L e.on=true)->(∀(i:Nat)(o:Oper),l[i]?=some o->L i=true->∀e∈o.after,Region.binds .any e=true->L e.on=true)->bT P (fun v d=>C d/\((o.dst=none/\J (bU L j) g d)∨∃h,v=p j h/\J (bU L j) (upd g j h) d)) ((execOp (f g).eval o).run P x))(hend:∀g x,J (fun _=>true) g x->C x->QB E x->Q .normal (f g) x):wpAny P .any l.toArray Q l.toArray.size (Array.replicate l.toArray.size false) G {w with drawn:=w.drawn+1}:=by
 have r:∀j∈D,∀o,l.toArray[j]?=some o->o.guard=none:=fun j m o s=>by unfold spB at hN;have:=bJ.1 hN j m;rw[s]at this;simpa using this
 refine AF E C D p J f hB hB' hS (bJ.2 fun j m=>?_) hC0 hCs hCw h0 hst hq hind (fun g j m o s=>by simp[Region.wanted,r j m o s]) hsp hend;have:=bJ.1 hN j m;cases h:l.toArray[j]? with|none=>rw[h]at this;cases this|some o=>rfl
def AG{s:Nat} {Q:Exit->Act->World->Prop} {R:Act} {w:World} {l:List Oper} (E:World)(C:World->Prop)(y:List Nat)(m:Nat->Gh->Value)(J:(Nat->Bool)->(Nat->Gh)->World->Prop)(f:(Nat->Gh)->Act)(Y:P.follows .mixedOrders=true)(U:bK l.toArray=true)(G:∀g,bK (mixL y m g 0 l).toArray=true)(X:Region.noSelect l.toArray=true)(V:spB l.toArray y=true)(H:C w)(I:∀x d,C x->QB x d->C d)(K:∀x,C x->QB E x)(S:∀L,(∀j∈y,L j=false)->J L (fun _=>Gh.zero) w)(O:∀L p g x d,(∀j∈y,p j=L j)->J L g x->QB x d->J p g d)(Z:∀g u,C u->(∀(x:Grew u)(b o:Nat),b<u.heap.size->x.val.cell? ⟨b,o,none⟩=u.cell? ⟨b,o,none⟩)->Hid (∀x:Grew u,QB E x.val)->Hid (∀x:Grew u,C x.val)->wpQuiet P (mixL y m g 0 l).toArray (fun t=>∃x:Grew u,t=x.val) (fun r=>r=f g) (mixL y m g 0 l) R)(D:∀j∈y,∀g h,bM (bR l.toArray j 0 l []) 0 (f g).tmps.toList=bM (bR l.toArray j 0 l []) 0 (f (upd g j h)).tmps.toList)(N:∀j∈y,∀o,l[j]?=some o->∀(L:Nat->Bool)(g:Nat->Gh)(x:World),J L g x->C x->QB E x->L j=false->(∀e∈o.after,Region.binds .any e=true->L e.on=true)->(∀(i:Nat)(o:Oper),l[i]?=some o->L i=true->∀e∈o.after,Region.binds .any e=true->L e.on=true)->bT P (fun v d=>C d/\((o.dst=none/\J (bU L j) g d)∨∃h,v=m j h/\J (bU L j) (upd g j h) d)) ((execOp (f g).eval o).run P x))(z:∀g x,J (fun _=>true) g x->C x->QB E x->Q .normal (f g) x):(Code.region s l.toArray true).wp P Q R w:=hK Y (A6 E C y m J f U G X V H I K S O Z D N z)
end
section
variable {P:Program}
def IU{f:Operand->Value} {o:Oper} {t:TypeId} {p:Operand} {b off:Nat} {n:Int} {x:World} (i:o.op=.load t p)(d:Sem.run P (isAgg t) x=.ok false x)(hp:f p=.pointer (some ⟨b,off,none⟩))(h:x.cell? ⟨b,off,none⟩=some (.int .i64 n)):(execOp f o).run P x=.ok (.value (.int .i64 n)) x:=by unfold execOp;rw[i];simp[go_sem,hp,h,d]
def nH{f:Operand->Value} {o:Oper} {t:TypeId} {p q:Operand} {b off:Nat} {n:Int} {u:Value} {x:World} (i:o.op=.store t p q)(d:Sem.run P (sizeOf t) x=.ok 1 x)(hp:f p=.pointer (some ⟨b,off,none⟩))(hq:f q=.int .i64 n)(h:x.cell? ⟨b,off,none⟩=some u)(r:x.frozen? ⟨b,off,none⟩=false):(execOp f o).run P x=.ok .skip (x.setCell ⟨b,off,none⟩ (.int .i64 n)):=by unfold execOp;rw[i];simp[go_sem,hp,hq,h,r,d]
def mkMAS(c n:Nat):Nat->Gh->Value:=fun j h=>if j=c then .slice (some h.b) n n else .pointer (some h.b)
def UN{id:Nat} {Q:Exit->Act->World->Prop} {a0:Act} {w:World} {l:List Oper} (C:World)(c m k n:Nat)(Y Z:Obj)(X:Gh->Obj)(s:(Nat->Gh)->Act)(hm:P.follows .mixedOrders=true)(hB:bK l.toArray=true)(hB':∀g,bK (mixL [c,m,k] (mkMAS c n) g 0 l).toArray=true)(hS:Region.noSelect l.toArray=true)(hN:spB l.toArray [c,m,k]=true)(hne:c≠m/\c≠k/\m≠k)(hkd:(match l[k]? with|some o=>o.dst.isNone|none=>false)=true)(hcl:∀L:Nat->Bool,(∀(i:Nat)(o:Oper),l[i]?=some o->L i=true->∀e∈o.after,Region.binds .any e=true->L e.on=true)->∀o,l[k]?=some o->(∀e∈o.after,Region.binds .any e=true->L e.on=true)->L c=true/\L m=true)(hw:QB C w)(hal1:∀o,l[c]?=some o->∀(g:Nat->Gh) (x:World),QB w x->(execOp (s g).eval o).run P x=.ok (.value (.slice (some x.heap.size) n n)) (x.alloc Y))(hal2:∀o,l[m]?=some o->∀(g:Nat->Gh) (x:World),(execOp (s g).eval o).run P x=.ok (.value (.pointer (some x.heap.size))) (x.alloc Z))(hq:∀g u,QB w u->(∀(x:Grew u)(b o:Nat),b<u.heap.size->x.val.cell? ⟨b,o,none⟩=u.cell? ⟨b,o,none⟩)->Hid (∀x:Grew u,QB C x.val)->Hid (∀x:Grew u,QB w x.val)->wpQuiet P (mixL [c,m,k] (mkMAS c n) g 0 l).toArray (fun w'=>∃x:Grew u,w'=x.val) (fun a'=>a'=s g) (mixL [c,m,k] (mkMAS c n) g 0 l) a0)(hind:∀j∈[c,m,k],∀g h,bM (bR l.toArray j 0 l []) 0 (s g).tmps.toList=bM (bR l.toArray j 0 l []) 0 (s (upd g j h)).tmps.toList)(hs:∀o,l[k]?=some o->∀(g:Nat->Gh)(x:World),QB w x->x.heap[(g m).b]?=some Z->∃D,(execOp (s g).eval o).run P x=.ok .skip D/\OnlyB (g m).b x D/\D.heap[(g m).b]?=some (X (g c)))(hend:∀(g:Nat->Gh)(x:World),w.heap.size<=(g c).b->w.heap.size<=(g m).b->(g c).b≠(g m).b->QB w x->QB C x->x.heap[(g c).b]?=some Y->x.heap[(g m).b]?=some (X (g c))->Q .normal (s g) x):(Code.region id l.toArray true).wp P Q a0 w:=by
 obtain⟨r,U,V⟩:=hne;refine AG C (fun x=>QB w x) [c,m,k] (mkMAS c n) (fun L g x=>(L c=false->L k=false)/\(L m=false->L k=false)/\(L c=true->w.heap.size<=(g c).b/\x.heap[(g c).b]?=some Y)/\(L m=true->w.heap.size<=(g m).b/\x.heap[(g m).b]?=some (if L k=true then X (g c)else Z))/\(L c=true->L m=true->(g c).b≠(g m).b)) s hm hB hB' hS hN (q' _ _) (fun x D h O=>h.trans (O.mono h.size)) (fun x h=>via hw h) ?_ ?_ hq hind ?_ ?_
 .intro L h;have a1:=h c Qd;have a2:=h m Qd;have a3:=h k Qd;refine⟨fun _=>a3,fun _=>a3,fun h=>?_,fun h=>?_,fun h=>?_⟩;·rw[a1]at h;cases h
  .rw[a2]at h;cases h
  .rw[a1]at h;cases h
 .rintro L L' g x D h ⟨K,N,f,t,y⟩ O;rw[h c Qd,h m Qd,h k Qd];exact⟨K,N,fun H=>⟨(f H).1,Zx O (f H).2⟩,fun H=>⟨(t H).1,Zx O (t H).2⟩,y⟩
 .intro j hj o I L g x ⟨K,N,f,t,y⟩ d E S p G;simp only[ZA1,ZBj,Zyj]at hj;rcases hj with rfl|rfl|rfl
  .have z:=K S;refine P3 (hal1 o I g x d) ⟨HU d _,.inr ⟨{Gh.zero with b:=x.heap.size},by unfold mkMAS;rw[r4 rfl],?_,?_,?_,?_,?_⟩⟩;·intro h;rw[A8]at h;cases h
   .intro h;rw[ZK (hV U)];exact z
   .intro _;rw[e0];exact⟨d.size,ZA _ _ rfl⟩
   .intro h;rw[ZK (hV r)]at h;rw[ZK (hV U),upd_ne (hV r),z];have:=t h;rw[z]at this;exact⟨this.1,Zz this.2 _⟩
   .intro _ h;rw[ZK (hV r)]at h;rw[e0,upd_ne (hV r)];have:=ZE (t h).2;dsimp only;omega
  .have z:=N S;refine P3 (hal2 o I g x) ⟨HU d _,.inr ⟨{Gh.zero with b:=x.heap.size},by unfold mkMAS;rw[Zc9 (hV r)],?_,?_,?_,?_,?_⟩⟩;·intro h;rw[ZK (hV V)];exact z
   .intro h;rw[A8]at h;cases h
   .intro h;rw[ZK r]at h;rw[upd_ne r];exact⟨(f h).1,Zz (f h).2 _⟩
   .intro _;rw[e0,ZK (hV V),z];exact⟨d.size,ZA _ _ rfl⟩
   .intro h _;rw[ZK r]at h;rw[e0,upd_ne r];have:=ZE (f h).2;dsimp only;omega
  .obtain⟨J,R⟩:=hcl L G o I p;obtain⟨p1,p2⟩:=t R;rw[Zc9 (by rw[S];decide)]at p2;obtain⟨D,r1,r2,r3⟩:=hs o I g x d p2;rw[I]at hkd;refine gN r1 ⟨d.trans (r2.below _ p1),.inl ⟨by simpa using hkd,?_,?_,?_,?_,?_⟩⟩;·intro h;rw[ZK U,J]at h;cases h
   .intro h;rw[ZK V,R]at h;cases h
   .intro _;exact⟨(f J).1,r2.keep (y J R) (f J).2⟩
   .intro _;rw[A8,r4 rfl];exact⟨p1,r3⟩
   .intro _ _;exact y J R
 .rintro g x ⟨K,N,f,t,y⟩ d E;have:=t rfl;rw[r4 rfl]at this;exact hend g x (f rfl).1 this.1 (y rfl rfl) d E (f rfl).2 this.2
def UO{id:Nat} {Q:Exit->Act->World->Prop} {a0:Act} {w:World} {l:List Oper} (w0:World)(p q k r:Nat)(b:Nat)(O R:Value)(C:Bool->Bool->Obj)(s:(Nat->Gh)->Act)(hm:P.follows .mixedOrders=true)(hB:bK l.toArray=true)(hB':∀g,bK (mixL [p,q,k,r] (fun j _=>if j=p then O else R) g 0 l).toArray=true)(hS:Region.noSelect l.toArray=true)(hN:spB l.toArray [p,q,k,r]=true)(hne:p≠q/\p≠k/\p≠r/\q≠k/\q≠r/\k≠r)(hkd:(match l[k]?,l[r]? with|some o,some o'=>o.dst.isNone&&o'.dst.isNone|_,_=>false)=true)(hcl:∀L:Nat->Bool,(∀(i:Nat)(o:Oper),l[i]?=some o->L i=true->∀e∈o.after,Region.binds .any e=true->L e.on=true)->((L k=true->L p=true/\L q=true)/\(L r=true->L p=true/\L q=true))/\(∀o,l[k]?=some o->(∀e∈o.after,Region.binds .any e=true->L e.on=true)->L p=true/\L q=true)/\(∀o,l[r]?=some o->(∀e∈o.after,Region.binds .any e=true->L e.on=true)->L p=true/\L q=true))(hw:QB w0 w)(hb:w0.heap.size<=b)(hb0:w.heap[b]?=some (C false false))(hp:∀o,l[p]?=some o->∀(g:Nat->Gh)(x:World),x.heap[b]?=some (C false false)->(execOp (s g).eval o).run P x=.ok (.value O) x)(hqq:∀o,l[q]?=some o->∀(g:Nat->Gh)(x:World),x.heap[b]?=some (C false false)->(execOp (s g).eval o).run P x=.ok (.value R) x)(hq:∀g u,w.grownBy u (some b)->(∀(x:Grew u)(b o:Nat),b<u.heap.size->x.val.cell? ⟨b,o,none⟩=u.cell? ⟨b,o,none⟩)->Hid (∀x:Grew u,QB w0 x.val)->Hid (∀x:Grew u,w.grownBy x.val (some b))->wpQuiet P (mixL [p,q,k,r] (fun j _=>if j=p then O else R) g 0 l).toArray (fun w'=>∃x:Grew u,w'=x.val) (fun a'=>a'=s g) (mixL [p,q,k,r] (fun j _=>if j=p then O else R) g 0 l) a0)(hind:∀j∈[p,q,k,r],∀g h,bM (bR l.toArray j 0 l []) 0 (s g).tmps.toList=bM (bR l.toArray j 0 l []) 0 (s (upd g j h)).tmps.toList)(hs1:∀o,l[k]?=some o->∀(f:Bool)(g:Nat->Gh)(x:World),x.heap[b]?=some (C false f)->∃d,(execOp (s g).eval o).run P x=.ok .skip d/\OnlyB b x d/\d.heap[b]?=some (C true f))(hs2:∀o,l[r]?=some o->∀(f:Bool)(g:Nat->Gh)(x:World),x.heap[b]?=some (C f false)->∃d,(execOp (s g).eval o).run P x=.ok .skip d/\OnlyB b x d/\d.heap[b]?=some (C f true))(hend:∀(g:Nat->Gh)(x:World),w.grownBy x (some b)->QB w0 x->x.heap[b]?=some (C true true)->Q .normal (s g) x):(Code.region id l.toArray true).wp P Q a0 w:=by
 obtain⟨n1,n2,n3,n4,n5,n6⟩:=hne;have I:∀{x d:World},OnlyB b x d->x.grownBy d (some b):=fun {x d} h=>⟨(h.below 0 (e6 _)).os,(h.below 0 (e6 _)).tape,(h.below 0 (e6 _)).output,(h.below 0 (e6 _)).size,fun i _ hi=>h.other i fun e=>hi (by rw[e])⟩;have t:∀{x d y:World},x.grownBy d (some b)->d.grownBy y (some b)->x.grownBy y (some b):=fun h k=>World.grownBy.trans h k;refine AG w0 (fun x=>w.grownBy x (some b)) [p,q,k,r] _ (fun L g x=>x.heap[b]?=some (C (L k) (L r))) s hm hB hB' hS hN ⟨rfl,rfl,rfl,h' _,fun _ _ _=>rfl⟩ (fun x d h hb=>t h ⟨hb.os,hb.tape,hb.output,hb.size,fun k z _=>hb.block k z⟩) (fun x h=>TO hw h fun i e=>by cases e;exact hb) ?_ ?_ hq hind ?_ ?_;·intro L h;rw[h k Qd,h r Qd];exact hb0
 .rintro L L' g x d h m S;rw[h k Qd,h r Qd];exact Zx S m
 .intro j hj o G L g x m D H E N J;obtain⟨⟨Y,Z⟩,c3,c4⟩:=hcl L J;simp only[ZA1,ZBj,Zyj]at hj;rcases hj with rfl|rfl|rfl|rfl
  .have z:L k=false:=by cases h:L k;rfl;have:=(Y h).1;rw[E]at this;cases this
   have K:L r=false:=by cases h:L r;rfl;have:=(Z h).1;rw[E]at this;cases this
   rw[z,K]at m;refine P3 (hp o G g x m) ⟨D,.inr ⟨Gh.zero,by rw[r4 rfl],?_⟩⟩;rw[ZK (hV n2),ZK (hV n3),z,K];exact m
  .have z:L k=false:=by cases h:L k;rfl;have:=(Y h).2;rw[E]at this;cases this
   have K:L r=false:=by cases h:L r;rfl;have:=(Z h).2;rw[E]at this;cases this
   rw[z,K]at m;refine P3 (hqq o G g x m) ⟨D,.inr ⟨Gh.zero,by rw[Zc9 (hV n1)],?_⟩⟩;rw[ZK (hV n4),ZK (hV n5),z,K];exact m
  .rw[E]at m;obtain⟨d,U,V,X⟩:=hs1 o G _ g x m;refine gN U ⟨t D (I V),.inl ⟨?_,?_⟩⟩
   .rw[G]at hkd;split at hkd;·rename_i e1 e2;cases e1;simp only[aY]at hkd;simpa using hkd.1
    .cases hkd
   .rw[A8,ZK (hV n6)];exact X
  .rw[E]at m;obtain⟨d,U,V,X⟩:=hs2 o G _ g x m;refine gN U ⟨t D (I V),.inl ⟨?_,?_⟩⟩
   .rw[G]at hkd;split at hkd;·rename_i e1 e2;cases e2;simp only[aY]at hkd;simpa using hkd.2
    .cases hkd
   .rw[A8,ZK n6];exact X
 .intro g x m D H;exact hend g x D H m
end
section
variable {P:Program}
def ZU(d w:World)(v:Value)(x:World):Prop:=QB d x/\w.heap.size<=x.heap.size/\∀k,k<w.heap.size->some k≠v.ownBlock->x.heap[k]?=w.heap[k]?
def ZU.refl{d w:World} {v:Value} (h:QB d w):ZU d w v w:=⟨h,h' _,fun _ _ _=>rfl⟩
def ZU.below{C w x f:World} {v:Value} (h:ZU C w v x)(hb:QB x f):ZU C w v f:=⟨via h.1 hb,w7 h.2.1 hb.size,fun k d i=>(hb.block k (h8 d h.2.1)).trans (h.2.2 k d i)⟩
def ZU.grown{g w x p:World} {v:Value} {row:Option Nat} (h:ZU g w v x)(hw:g.heap.size<=w.heap.size)(s:∀r,v.ownBlock=some r->g.heap.size<=r)(f:x.grownBy p row)(m:∀r,row=some r->w.heap.size<=r∨v.ownBlock=some r):ZU g w v p:=⟨ZW h.1 f fun b e=>by
  rcases m b e with d|d;·omega
  .exact s b d,w7 h.2.1 f.size,fun k i o=>(f.block k (h8 i h.2.1) fun e=>by
   rcases m k e.symm with d|d;·omega
   .exact o d.symm).trans (h.2.2 k i o)⟩
def mkR6(m0 c m1 d m2 n nq:Nat):Nat->Gh->Value:=fun j g=>if j=m0 then .slice (some g.b) 0 0 else if j=c then .slice g.a1 n g.c1 else if j=m1 then .slice (some g.b) 1 1 else if j=m2 then .slice (some g.b) 1 1 else if j=d then .slice g.a1 (n+1) g.c1 else .slice g.a1 (nq+1) g.c1
def UP{Q:Exit->Act->World->Prop} {a0:Act} {w:World} {l:List Oper} (w0:World)(m0 c m1 C m2 q2:Nat)(n nq:Nat)(e1:TypeId)(xs ys:List Value)(z0 z1:Obj)(z2:Gh->Obj)(row:Gh->List Value)(U:Nat)(Y:TypeId)(v:Value)(X:List Value)(D:(Nat->Gh)->Act)(hB:bK l.toArray=true)(hB':∀g,bK (mixL [m0,c,m1,C,m2,q2] (mkR6 m0 c m1 C m2 n nq) g 0 l).toArray=true)(hS:Region.noSelect l.toArray=true)(hN:spB l.toArray [m0,c,m1,C,m2,q2]=true)(hne:m0≠c/\m0≠m1/\m0≠C/\m0≠m2/\m0≠q2/\c≠m1/\c≠C/\c≠m2/\c≠q2/\m1≠C/\m1≠m2/\m1≠q2/\C≠m2/\C≠q2/\m2≠q2)(hd1:∀L:Nat->Bool,(∀(i:Nat)(o:Oper),l[i]?=some o->L i=true->∀e∈o.after,Region.binds .any e=true->L e.on=true)->(∀o,l[C]?=some o->(∀e∈o.after,Region.binds .any e=true->L e.on=true)->L c=true/\L m1=true)/\(∀o,l[m2]?=some o->(∀e∈o.after,Region.binds .any e=true->L e.on=true)->L C=true)/\(∀o,l[q2]?=some o->(∀e∈o.after,Region.binds .any e=true->L e.on=true)->L m2=true))(hw:QB w0 w)(hv0:∀r,v.ownBlock=some r->w0.heap.size<=r)(hown:w.ownsRow U Y 1 v nq X)(hal0:∀o,l[m0]?=some o->∀(g:Nat->Gh) (x:World),(execOp (D g).eval o).run P x=.ok (.value (.slice (some x.heap.size) 0 0)) (x.alloc z0))(hcl:∀o,l[c]?=some o->∀(g:Nat->Gh)(x:World),ZU w0 w v x->∃z s,(execOp (D g).eval o).run P x=.ok (.value z) s/\s.ownsRow w.heap.size e1 1 z n xs/\QB x s)(hal1:∀o,l[m1]?=some o->∀(g:Nat->Gh) (x:World),(execOp (D g).eval o).run P x=.ok (.value (.slice (some x.heap.size) 1 1)) (x.alloc z1))(hap1:∀o,l[C]?=some o->∀(g:Nat->Gh) (x:World),ZU w0 w v x->x.ownsRow w.heap.size e1 1 (.slice (g c).a1 n (g c).c1) n xs->x.heap[(g m1).b]?=some z1->∃z s,(execOp (D g).eval o).run P x=.ok (.value z) s/\s.ownsRow w.heap.size e1 1 z (n+1) (xs++ys)/\x.grownBy s (Value.slice (g c).a1 n (g c).c1).ownBlock)(hal2:∀o,l[m2]?=some o->∀(g:Nat->Gh) (x:World),(execOp (D g).eval o).run P x=.ok (.value (.slice (some x.heap.size) 1 1)) (x.alloc (z2 (g C))))(hap2:∀o,l[q2]?=some o->∀(g:Nat->Gh) (x:World),ZU w0 w v x->x.ownsRow U Y 1 v nq X->x.heap[(g m2).b]?=some (z2 (g C))->∃z s,(execOp (D g).eval o).run P x=.ok (.value z) s/\s.ownsRow U Y 1 z (nq+1) (X++row (g C))/\x.grownBy s v.ownBlock/\(z.ownBlock=v.ownBlock∨z.ownBlock=some x.heap.size))(hq:∀g u,ZU w0 w v u->(∀(x:Grew u)(b o:Nat),b<u.heap.size->x.val.cell? ⟨b,o,none⟩=u.cell? ⟨b,o,none⟩)->Hid (∀x:Grew u,QB w0 x.val)->Hid (∀x:Grew u,ZU w0 w v x.val)->wpQuiet P (mixL [m0,c,m1,C,m2,q2] (mkR6 m0 c m1 C m2 n nq) g 0 l).toArray (fun w'=>∃x:Grew u,w'=x.val) (fun a'=>a'=D g) (mixL [m0,c,m1,C,m2,q2] (mkR6 m0 c m1 C m2 n nq) g 0 l) a0)(hind:∀j∈[m0,c,m1,C,m2,q2],∀g h,bM (bR l.toArray j 0 l []) 0 (D g).tmps.toList=bM (bR l.toArray j 0 l []) 0 (D (upd g j h)).tmps.toList)(hend:∀(g:Nat->Gh) (x:World),ZU w0 w v x->x.ownsRow w.heap.size e1 1 (.slice (g C).a1 (n+1) (g C).c1) (n+1) (xs++ys)->x.ownsRow U Y 1 (.slice (g q2).a1 (nq+1) (g q2).c1) (nq+1) (X++row (g C))->((Value.slice (g q2).a1 (nq+1) (g q2).c1).ownBlock=v.ownBlock∨∃r,(Value.slice (g q2).a1 (nq+1) (g q2).c1).ownBlock=some r/\w.heap.size<=r/\some r≠(Value.slice (g C).a1 (n+1) (g C).c1).ownBlock)->Q .normal (D g) x):wpAny P .any l.toArray Q l.toArray.size (Array.replicate l.toArray.size false) a0 {w with drawn:=w.drawn+1}:=by
 obtain⟨o1,o2,o3,o4,o5,n1,n2,n3,n4,n5,n6,n7,n8,n9,G⟩:=hne;have R:∀r,v.ownBlock=some r->r<w.heap.size:=fun r e=>(hown.lt r e).2;refine A6 w0 (ZU w0 w v) [m0,c,m1,C,m2,q2] (mkR6 m0 c m1 C m2 n nq) (fun L g x=>((L C=true->L c=true/\L m1=true)/\(L m2=true->L C=true)/\(L q2=true->L m2=true))/\(L C=false->L c=true->x.ownsRow w.heap.size e1 1 (.slice (g c).a1 n (g c).c1) n xs)/\(L C=false->L m1=true->w.heap.size<=(g m1).b/\x.heap[(g m1).b]?=some z1)/\(L C=true->x.ownsRow w.heap.size e1 1 (.slice (g C).a1 (n+1) (g C).c1) (n+1) (xs++ys))/\(L q2=false->L m2=true->w.heap.size<=(g m2).b/\x.heap[(g m2).b]?=some (z2 (g C)))/\(L q2=false->x.ownsRow U Y 1 v nq X)/\(L q2=true->x.ownsRow U Y 1 (.slice (g q2).a1 (nq+1) (g q2).c1) (nq+1) (X++row (g C))/\((Value.slice (g q2).a1 (nq+1) (g q2).c1).ownBlock=v.ownBlock∨∃r,(Value.slice (g q2).a1 (nq+1) (g q2).c1).ownBlock=some r/\w.heap.size<=r/\some r≠(Value.slice (g C).a1 (n+1) (g C).c1).ownBlock))) D hB hB' hS hN (ZU.refl hw) (fun x s h y=>h.below y) (fun x h=>h.1) ?_ ?_ hq hind ?_ ?_;·intro L h;have a1:=h c Qd;have a2:=h m1 Qd;have a3:=h C Qd;have a4:=h m2 Qd;have a5:=h q2 Qd;rw[a1,a2,a3,a4,a5];exact⟨⟨(fun h=>by cases h),(fun h=>by cases h),(fun h=>by cases h)⟩,(fun _ h=>by cases h),(fun _ h=>by cases h),(fun h=>by cases h),(fun _ h=>by cases h),fun _=>hown,(fun h=>by cases h)⟩
 .rintro L L' g x s h ⟨j0,j1,j2,j3,j4,K,N⟩ y;have a1:=h c Qd;have a2:=h m1 Qd;have a3:=h C Qd;have a4:=h m2 Qd;have a5:=h q2 Qd;rw[a1,a2,a3,a4,a5];exact⟨j0,fun h m=>ZL (j1 h m) y,fun h m=>⟨(j2 h m).1,Zx y (j2 h m).2⟩,fun h=>ZL (j3 h) y,fun h m=>⟨(j4 h m).1,Zx y (j4 h m).2⟩,fun h=>ZL (K h) y,fun h=>⟨ZL (N h).1 y,(N h).2⟩⟩
 .intro j hj o I L g x ⟨⟨k1,k2,k3⟩,j1,j2,j3,j4,K,N⟩ t aA J f Z;obtain⟨d1,d2,d3⟩:=hd1 L Z;have S:L C=false->L m2=false/\L q2=false:=fun h=>by
   have a:L m2=false:=by cases H:L m2 with|false=>rfl|true=>rw[k2 H]at h;cases h
   refine⟨a,?_⟩;cases H:L q2 with|false=>rfl|true=>rw[k3 H]at a;cases a
  have aC:L m2=false->L q2=false:=fun h=>by cases H:L q2 with
   |false=>rfl|true=>rw[k3 H]at h;cases h
  have nc:L c=false->L C=false:=fun h=>by cases H:L C with|false=>rfl|true=>rw[(k1 H).1]at h;cases h
  have aB:L m1=false->L C=false:=fun h=>by cases H:L C with
   |false=>rfl|true=>rw[(k1 H).2]at h;cases h
  simp only[ZA1,ZBj,Zyj]at hj;rcases hj with rfl|rfl|rfl|rfl|rfl|rfl;·refine P3 (hal0 o I g x) ⟨t.below (ZB _ _),.inr ⟨{Gh.zero with b:=x.heap.size},by simp[mkR6],?_⟩⟩;rw[ZK (hV o1),ZK (hV o2),ZK (hV o3),ZK (hV o4),ZK (hV o5),upd_ne (hV o1),upd_ne (hV o2),upd_ne (hV o3),upd_ne (hV o4),upd_ne (hV o5)];have y:=ZB x z0;exact⟨⟨k1,k2,k3⟩,fun h m=>ZL (j1 h m) y,fun h m=>⟨(j2 h m).1,Zx y (j2 h m).2⟩,fun h=>ZL (j3 h) y,fun h m=>⟨(j4 h m).1,Zx y (j4 h m).2⟩,fun h=>ZL (K h) y,fun h=>⟨ZL (N h).1 y,(N h).2⟩⟩
  .have p:=nc J;obtain⟨l2,E⟩:=S p;obtain⟨z,s,r1,p1,p2⟩:=hcl o I g x t;obtain⟨A,cp,rfl⟩:=Z2 p1;refine P3 r1 ⟨t.below p2,.inr ⟨{Gh.zero with a1:=A,c1:=cp},by simp[mkR6,hV o1],?_⟩⟩;rw[A8,ZK (hV n1),ZK (hV n2),ZK (hV n3),ZK (hV n4),e0,upd_ne (hV n1),upd_ne (hV n2),upd_ne (hV n3),upd_ne (hV n4),p,l2,E];exact⟨⟨(fun h=>by cases h),(fun h=>by cases h),(fun h=>by cases h)⟩,fun _ _=>p1,fun h m=>⟨(j2 p m).1,Zx p2 (j2 p m).2⟩,(fun h=>by cases h),(fun _ h=>by cases h),fun _=>ZL (K E) p2,(fun h=>by cases h)⟩
  .have p:=aB J;obtain⟨l2,E⟩:=S p;refine P3 (hal1 o I g x) ⟨t.below (ZB _ _),.inr ⟨{Gh.zero with b:=x.heap.size},by simp[mkR6,hV n1,hV o2],?_⟩⟩;rw[A8,ZK n1,ZK (hV n5),ZK (hV n6),ZK (hV n7),e0,upd_ne n1,upd_ne (hV n5),upd_ne (hV n6),upd_ne (hV n7),p,l2,E];exact⟨⟨(fun h=>by cases h),(fun h=>by cases h),(fun h=>by cases h)⟩,fun _ h=>ZL (j1 p h) (ZB _ _),fun _ _=>⟨t.2.1,ZA _ _ rfl⟩,(fun h=>by cases h),(fun _ h=>by cases h),fun _=>ZL (K E) (ZB _ _),(fun h=>by cases h)⟩
  .obtain⟨lc,V⟩:=d1 o I f;obtain⟨l2,E⟩:=S J;have d:=j1 J lc;obtain⟨z,s,r1,r2,r3⟩:=hap1 o I g x t d (j2 J V).2;obtain⟨gB,O,rfl⟩:=Z2 r2;have hr:∀r,(Value.slice (g c).a1 n (g c).c1).ownBlock=some r->w.heap.size<=r:=fun r e=>(d.lt r e).1;refine P3 r1 ⟨t.grown (by have:=hw.size;exact this) hv0 r3 (fun r e=>.inl (hr r e)),.inr ⟨{Gh.zero with a1:=gB,c1:=O},by simp[mkR6,hV n2,hV n5,n8,hV o3],?_⟩⟩;rw[A8,ZK n2,ZK n5,ZK (hV n8),ZK (hV n9),e0,upd_ne n2,upd_ne n5,upd_ne (hV n8),upd_ne (hV n9),l2,E];refine⟨⟨fun _=>⟨lc,V⟩,(fun h=>by cases h),(fun h=>by cases h)⟩,(fun h=>by cases h),(fun h=>by cases h),fun _=>r2,(fun _ h=>by cases h),fun _=>A9 (K E) fun r e=>r3.block r ?_ ?_,(fun h=>by cases h)⟩;·exact h8 (R r e) t.2.1
   .intro e';have:=hr r e'.symm;have:=R r e;omega
  .have p:=d2 o I f;have E:=aC J;refine P3 (hal2 o I g x) ⟨t.below (ZB _ _),.inr ⟨{Gh.zero with b:=x.heap.size},by simp[mkR6,hV n3,hV n6,hV o4],?_⟩⟩;rw[A8,ZK n3,ZK n6,ZK n8,ZK (hV G),e0,upd_ne n3,upd_ne n6,upd_ne n8,upd_ne (hV G),p,E];exact⟨⟨fun _=>k1 p,fun _=>rfl,(fun h=>by cases h)⟩,(fun h=>by cases h),(fun h=>by cases h),fun _=>ZL (j3 p) (ZB _ _),fun _ _=>⟨t.2.1,ZA _ _ rfl⟩,fun _=>ZL (K E) (ZB _ _),(fun h=>by cases h)⟩
  .have V:=d3 o I f;have p:=k2 V;obtain⟨z,s,r1,r2,r3,r4⟩:=hap2 o I g x t (K J) (j4 J V).2;obtain⟨gB,O,rfl⟩:=Z2 r2;have d:=j3 p;refine P3 r1 ⟨t.grown hw.size hv0 r3 (fun r e=>.inr e),.inr ⟨{Gh.zero with a1:=gB,c1:=O},by simp[mkR6,hV n4,hV n7,hV n9,hV G,hV o5],?_⟩⟩;rw[A8,ZK n4,ZK n7,ZK n9,ZK G,e0,upd_ne n4,upd_ne n7,upd_ne n9,upd_ne G,p,V];refine⟨⟨fun _=>k1 p,fun _=>rfl,fun _=>rfl⟩,(fun h=>by cases h),(fun h=>by cases h),fun _=>A9 d fun r e=>r3.block r ?_ ?_,(fun h=>by cases h),(fun h=>by cases h),fun _=>⟨r2,?_⟩⟩;·exact(d.lt r e).2
   .intro e';have:=(d.lt r e).1;have:=R r e'.symm;omega
   .rcases r4 with h|h;·exact .inl h
    .refine .inr ⟨_,h,t.2.1,fun e=>?_⟩;have:=(d.lt _ e.symm).2;omega
 .rintro g x ⟨-,-,-,j3,-,-,N⟩ t aA;exact hend g x t (j3 rfl) (N rfl).1 (N rfl).2
def UQ{f:Operand->Value} {o:Oper} {x:World} (s y:Operand)(t e:TypeId)(i:TypeInfo)(z:Value)(d base b c n:Nat) {A:Option Addr} {l:List Int} (C:l.length=n)(ho:o.op=.call {callee:=.builtin .append,args:=#[s,y],argTypes:=#[t,t]})(hs:f s=.slice (some b) 0 0)(N:f y=.slice A n c)(ht:P.underlying t=some (.slice e))(g:P.info? e=some i)(hz:i.zero=some z)(p:i.size=1)(I:i.bytes=d)(O:z.cells.size=1)(G:d<=1000)(r:At 1 Zc x A l)(hne:0<l.length)(Z:l.length<=1000)(H:base<=x.heap.size):∃V R,(execOp f o).run P x=.ok (.value V) R/\R.ownsRow base e 1 V n (l.map (Value.int .i64))/\QB x R:=by
 subst C;obtain⟨a,rfl⟩:∃a,A=some a:=by obtain⟨D,Q,h,-⟩:=r 0 _ (k2 hne);exact⟨_,h⟩
 have m:∀j u,(l.map (Value.int .i64))[j]?=some u->x.cell? (a.add j)=some u:=fun j u U=>by
  rw[k3]at U;obtain⟨y,N,rfl⟩:=C2.1 U;obtain⟨D,Q,h,-,Y⟩:=r j y N;cases h;have:=Y 0 _ rfl;have e:Addr.add ⟨D,Q,none⟩ j=⟨D,Q+j,none⟩:=by unfold Addr.add;split<;>simp_all
  rw[e];simpa using this
 have X:l.length*d<=1000*1000:=dB Z G;subst I;have K:(l.map (Value.int .i64)).length=l.length*i.size:=by simp[p]
 have S:=run_append_grow (P:=P) (w:=x) t o.type e i z ht g hz ⟨b,0,none⟩ 0 0 [] Qd Qd a l.length c (l.map (Value.int .i64)) K m Qa Qa (growslice_fits Qa (by rw[w0];omega));simp only[w0]at S;have L:=grownCap_ge x l.length 0 e;have J:grownCap x l.length 0 e<=maxLen:=grownCap_le_maxLen x l.length 0 e Qq;have E:QB x (x.drew.alloc (.cells (([]:List Value).toArray++(l.map (Value.int .i64)).toArray++Builtin.zeroCells z.cells (grownCap x l.length 0 e-l.length)) e)):=((q' _ x).drew).alloc Qd _;refine⟨_,_,?_,⟨Qd,.inr ⟨x.heap.size,_,_,rfl,H,Bt x.drew _,L,J,?_,?_⟩⟩,E⟩;·unfold execOp;simp only[ho,resolve,invoke,builtin,aC,aB,aA,dW,p1,N1,hs,N,S]
 .simp only[Array.size_append,M0,size_zeroCells,O,R',hG,w0,w8];omega
 .simp only[zU,s0,w8];rw[show l.length=(l.map (Value.int .i64)).length by simp];exact List.take_left
def IV{f:Operand->Value} {o:Oper} {x:World} (s y:Operand)(t e:TypeId)(i:TypeInfo)(I v:Value)(d base n b:Nat)(xs:List Value)(u:Value)(tb:TypeId)(O:o.op=.call {callee:=.builtin .append,args:=#[s,y],argTypes:=#[t,t]})(hs:f s=v)(R:f y=.slice (some b) 1 1)(Q:P.underlying t=some (.slice e))(Z:P.info? e=some i)(hz:i.zero=some I)(p:i.size=1)(G:i.bytes=d)(H:I.cells.size=1)(E:d<=1000)(hown:x.ownsRow base e 1 v n xs)(C:x.heap[b]?=some (.cells #[u] tb))(K:u.oneCell'=true)(D:n+1<=1000)(m:base<=x.heap.size):∃r z,(execOp f o).run P x=.ok (.value r) z/\z.ownsRow base e 1 r (n+1) (xs++[u])/\x.grownBy z v.ownBlock/\(r.ownBlock=v.ownBlock∨r.ownBlock=some x.heap.size):=by
 have L:(n+1)*d<=1000*1000:=dB D E;obtain⟨g,J,z,S,U,V,X,Y⟩:=oP (P:=P) x t o.type base e i I 1 d Q Z hz p G H Qc v n xs hown ⟨b,0,none⟩ 1 1 [u] Qd (fun j r N=>o9 C j r (by simpa using N)) (by simpa using K) Qc Qq Qa m _ rfl;refine⟨_,z,?_,U,V,?_⟩;·unfold execOp;simp only[O,resolve,invoke,builtin,aC,aB,aA,dW,p1,N1,hs,R,S]
 .rcases X with h|h;·exact .inl h.symm
  .subst h;exact .inr rfl
def RowsOwn.row6{w0 w x:World} {base n:Nat} {v:Value} {m p:Option Addr} {s f:Nat} {xs:List IR} {l:List Int} (h:RowsOwn w base v xs)(hb:base<=w.heap.size)(E:ZU w0 w v x)(D:x.ownsRow w.heap.size 3 1 (.slice p n f) n (l.map (Value.int .i64)))(Y:0<n)(N:x.ownsRow base 30 1 (.slice m (xs.length+1) s) (xs.length+1) ((xs.map fun x=>Value.slice x.A x.l.length x.c)++[.slice p n f]))(J:(Value.slice m (xs.length+1) s).ownBlock=v.ownBlock∨∃r,(Value.slice m (xs.length+1) s).ownBlock=some r/\w.heap.size<=r/\some r≠(Value.slice p n f).ownBlock):RowsOwn x base (.slice m (xs.length+1) s) (xs++[⟨p,f,l⟩]):=by
 have I:l.length=n:=by have:=D.1;simpa using this
 refine⟨?_,fun y d=>?_⟩;·rw[M1,b3];simpa [I] using N
 .rcases C1.1 d with d|d
  .obtain⟨X,L⟩:=h.row y d;refine⟨fun k z S=>?_,fun a t=>?_⟩;·obtain⟨b,o,K,i,O⟩:=X k z S;obtain⟨C,Z,g⟩:=L _ K;refine⟨b,o,K,h8 i E.2.1,fun j u R=>?_⟩;rw[<-O j u R];exact P0 (a:=⟨b,o+k*1+j,none⟩) (E.2.2 b i g)
   .obtain⟨C,Z,g⟩:=L a t;refine⟨C,h8 Z E.2.1,?_⟩;rcases J with e|⟨r,e,Q,-⟩;·rw[e];exact g
    .rw[e];intro G;cases G;omega
  .rw[y2]at d;subst d;refine⟨e7 (n:=n) (c:=f) D,fun a t=>?_⟩;dsimp only at t;subst t;obtain⟨U,V⟩:=D.lt a.block rfl;refine⟨w7 hb U,V,?_⟩;rcases J with e|⟨r,e,Q,G⟩;·rw[e];intro H;have:=(h.own.lt _ H.symm).2;omega
   .rw[e];exact fun H=>G H.symm
end
section
variable {P:Program} {n:Nat}
def AH{l:Nat} {o:Oper} {a:Act} {w:World} {K:Act->World->Prop} {Q:Exit->Act->World->Prop} (e:∀c,o.op≠.defer c)(h:o.wp P a w K Q):o.wpIn (Fence.wide.inRound l) n P a w K Q:=by unfold Oper.wpIn;refine⟨fun _ _=>trivial,?_⟩;rw[Oper.semAt_eq _ _ _ e];unfold Oper.wp at h;generalize (execOp a.eval o).run P w=r at*;cases r with
 |ok nx w'=>
  cases nx<;>simp only[Oper.upon]at h<;>simp only[Oper.uponIn];case value u=>exact h
  case skip=>exact h
  case defer d=>exact h
  case enter f args=>exact⟨fun i=>(by cases i),(lV.2 h).inRound l⟩
  case row r args=>refine⟨fun i=>(by cases i),fun c cs _=>?_⟩;obtain⟨v,m,q,s⟩:=h c cs;exact⟨v,m,q,stepsIn_wide.2 s⟩|halt x w'=>cases x<;>simp only[Oper.upon]at h<;>simp only[Oper.uponIn];exact h
def UR{e:Array Oper} {l i:Nat} {a:Act} {w:World} {K m:Act->World->Prop} {Q:Exit->Act->World->Prop} (r:∀o∈e,∀c,o.op≠.defer c)(g:¬LetsOut Q)(p:∀a w,K a w->m a w)(h:wpOp P e Q i K a w):wpOpIn (Fence.wide.inRound l) n P e Q i m a w:=by
 have h:=wpOp_mono p h;unfold wpOp at h;unfold wpOpIn;split;·rename_i d;simpa only[d] using h
 .rename_i o d;simp only[d]at h;split
  .rename_i f;rw[r4 f]at h;rcases h with h|h;·exact AH (r o (aU d)) h
   .exact absurd h.2 g
  .rename_i f;rw[Zc9 f]at h;exact⟨fun _ _=>trivial,h⟩
def uT{e:Array Oper} {t:Region.Mode} {l:Nat} {Q:Exit->Act->World->Prop} (g:∀o∈e,∀c,o.op≠.defer c)(hL:¬LetsOut Q):∀(f:Nat)(d:Array Bool)(a:Act)(w:World),wpAny P t e Q f d a w->wpAnyIn (Fence.wide.inRound l) n P t e Q f d a w|0,_,_,_,h=>h|f+1,_,_,_,h=>⟨h.1,fun i r=>UR g hL (fun m s p=>uT g hL f _ m s p) (h.2 i r)⟩
def rK{e:Array Oper} {l:Nat} {Q:Exit->Act->World->Prop} (hL:¬LetsOut Q):∀(g:List Oper)(a:Act)(w:World),g.all (fun o=>match o.op with|.defer _=>false|_=>true)=true->wpList P e Q g a w->wpListIn (Fence.wide.inRound l) n P e Q g a w
 |[],_,_,_,h=>h|o::rest,a,w,hd,h=>by
  simp only[iP,aY]at hd;have d:∀c,o.op≠.defer c:=fun c p=>by rw[p]at hd;cases hd.1
  unfold wpList at h;unfold wpListIn;split
  .rename_i f;rw[r4 f]at h;rcases h with h|h;·exact AH d (uP (fun i r m=>rK hL rest i r hd.2 m) h)
   .exact absurd h.2 hL
  .rename_i f;rw[Zc9 f]at h;exact⟨fun _ _=>trivial,rK hL rest _ _ hd.2 h⟩
def EJ(e w:World)(d f h:Nat)(x:World):Prop:=QB e x/\w.heap.size<=x.heap.size/\∀k,k<w.heap.size->k≠d->k≠f->k≠h->x.heap[k]?=w.heap[k]?
def US{Q:Exit->Act->World->Prop} {a0:Act} {w:World} {l:List Oper} (e:World)(p q r:Nat)(f i m:Nat)(y4 z4 y5 z5 y6 z6:Obj)(I:Act)(hB:bK l.toArray=true) (hB':bK (mixL [p,q,r] (fun _ _=>undef) (fun _=>Gh.zero) 0 l).toArray=true) (hS:Region.noSelect l.toArray=true) (hN:spB l.toArray [p,q,r]=true) (hne:p≠q/\p≠r/\q≠r)(hkd:(match l[p]?,l[q]?,l[r]? with|some o,some o',some o''=>o.dst.isNone&&o'.dst.isNone&&o''.dst.isNone|_,_,_=>false)=true)(hw:QB e w)(hb:e.heap.size<=f/\e.heap.size<=i/\e.heap.size<=m)(hbn:f≠i/\f≠m/\i≠m)(h4:w.heap[f]?=some y4)(h5:w.heap[i]?=some y5)(h6:w.heap[m]?=some y6)(hs4:∀o,l[p]?=some o->∀x,EJ e w f i m x->x.heap[f]?=some y4->∃d,(execOp I.eval o).run P x=.ok .skip d/\OnlyB f x d/\d.heap[f]?=some z4)(hs5:∀o,l[q]?=some o->∀x,EJ e w f i m x->x.heap[i]?=some y5->∃d,(execOp I.eval o).run P x=.ok .skip d/\OnlyB i x d/\d.heap[i]?=some z5)(hs6:∀o,l[r]?=some o->∀x,EJ e w f i m x->x.heap[m]?=some y6->∃d,(execOp I.eval o).run P x=.ok .skip d/\OnlyB m x d/\d.heap[m]?=some z6)(hq:∀u,EJ e w f i m u->(∀(x:Grew u)(b o:Nat),b<u.heap.size->x.val.cell? ⟨b,o,none⟩=u.cell? ⟨b,o,none⟩)->wpQuiet P (mixL [p,q,r] (fun _ _=>undef) (fun _=>Gh.zero) 0 l).toArray (fun w'=>∃x:Grew u,w'=x.val) (fun a'=>a'=I) (mixL [p,q,r] (fun _ _=>undef) (fun _=>Gh.zero) 0 l) a0)(C:∀x,EJ e w f i m x->x.heap[f]?=some z4->x.heap[i]?=some z5->x.heap[m]?=some z6->Q .normal I x):wpAny P .any l.toArray Q l.toArray.size (Array.replicate l.toArray.size false) a0 {w with drawn:=w.drawn+1}:=by
 obtain⟨n1,n2,n3⟩:=hne;obtain⟨e1,e2,e3⟩:=hbn;have O:∀j∈[p,q,r],∀o,l[j]?=some o->o.dst=none:=by cases K:l[p]? with|none=>rw[K]at hkd;simp at hkd|some o1=>cases V:l[q]? with|none=>rw[K,V]at hkd;simp at hkd|some o2=>cases Z:l[r]? with
    |none=>rw[K,V,Z]at hkd;simp at hkd|some o3=>
     rw[K,V,Z]at hkd;simp only[aY,zV]at hkd;intro j J o t;simp only[ZA1,ZBj,Zyj]at J;rcases J with rfl|rfl|rfl;·rw[K]at t;cases t;exact hkd.1.1
     .rw[V]at t;cases t;exact hkd.1.2
     .rw[Z]at t;cases t;exact hkd.2
 have H:∀{x d:World} {b:Nat},EJ e w f i m x->OnlyB b x d->(b=f∨b=i∨b=m)->EJ e w f i m d:=fun {x d b} h t N=>⟨h.1.trans (t.below _ (by rcases N with rfl|rfl|rfl;exact hb.1;exact hb.2.1;exact hb.2.2)),w7 h.2.1 (t.below 0 (e6 _)).size,fun k Y y z D=>(t.other k (by rcases N with rfl|rfl|rfl<;>assumption)).trans (h.2.2 k Y y z D)⟩;have aC:∀{x d:World},EJ e w f i m x->QB x d->EJ e w f i m d:=fun {x d} h s=>⟨via h.1 s,w7 h.2.1 s.size,fun k Y y z D=>(s.block k (h8 Y h.2.1)).trans (h.2.2 k Y y z D)⟩;have R:∀g g',mixL [p,q,r] (fun _ _=>undef) g 0 l=mixL [p,q,r] (fun _ _=>undef) g' 0 l:=fun g g'=>by apply aL;intro j;have y:=F4 [p,q,r] (fun _ _=>undef) g l 0 j;have z:=F4 [p,q,r] (fun _ _=>undef) g' l 0 j;rw[y,z]
 refine A6 e (EJ e w f i m) [p,q,r] (fun _ _=>undef) (fun L g x=>x.heap[f]?=some (if L p then z4 else y4)/\x.heap[i]?=some (if L q then z5 else y5)/\x.heap[m]?=some (if L r then z6 else y6)) (fun _=>I) hB (fun g=>by rw[R g (fun _=>Gh.zero)];exact hB') hS hN
  ⟨hw,h' _,fun _ _ _ _ _=>rfl⟩ (fun x d h hb=>aC h hb) (fun x h=>h.1) ?_ ?_ (fun g u hu aB _ _=>by rw[R g (fun _=>Gh.zero)];exact hq u hu aB) (fun _ _ _ _=>rfl) ?_ ?_;·intro L h;rw[h p Qd,h q Qd,h r Qd];exact⟨h4,h5,h6⟩
 .rintro L L' g x d h ⟨y,z,D⟩ s;rw[h p Qd,h q Qd,h r Qd];exact⟨Zx s y,Zx s z,Zx s D⟩
 .intro j J o t L g x ⟨y,z,D⟩ G aA hL X aD;have hd:=O j J o t;simp only[ZA1,ZBj,Zyj]at J;rcases J with rfl|rfl|rfl;·rw[hL]at y;obtain⟨d,S,E,U⟩:=hs4 o t x G y;refine gN S ⟨H G E (.inl rfl),.inl ⟨hd,?_⟩⟩;rw[A8,ZK (hV n1),ZK (hV n2)];exact⟨U,E.keep (hV e1) z,E.keep (hV e2) D⟩
  .rw[hL]at z;obtain⟨d,S,E,U⟩:=hs5 o t x G z;refine gN S ⟨H G E (.inr (.inl rfl)),.inl ⟨hd,?_⟩⟩;rw[A8,ZK n1,ZK (hV n3)];exact⟨E.keep e1 y,U,E.keep (hV e3) D⟩
  .rw[hL]at D;obtain⟨d,S,E,U⟩:=hs6 o t x G D;refine gN S ⟨H G E (.inr (.inr rfl)),.inl ⟨hd,?_⟩⟩;rw[A8,ZK n2,ZK n3];exact⟨E.keep e2 y,E.keep e3 z,U⟩
 .rintro g x ⟨y,z,D⟩ G aA;simp only[Zyl]at y z D;exact C x G y z D
end
section
variable {P:Program}
def q7(o:Oper):List Nat:=(o.after.toList.filter (Region.binds .any)).map (·.on)
def AI(l:List Oper)(S:List Nat):List Nat:=S.foldl (fun d i=>match l[i]? with|some o=>(q7 o).foldl (fun a e=>if a.contains e then a else a++[e]) d|none=>d) S
def nI(l:List Oper):Nat->List Nat->List Nat|0,S=>S|n+1,S=>nI l n (AI l S)
def jG(l:List Oper)(e:List Nat)(d:Nat->List Nat):Bool:=e.all fun j=>match l[j]? with|some o=>(d j).all fun i=>(nI l l.length (q7 o)).contains i|none=>false
def qD{o:Oper} {L:Nat->Bool} (h:∀e∈o.after,Region.binds .any e=true->L e.on=true):∀i∈q7 o,L i=true:=by intro i p;obtain⟨e,m,rfl⟩:=L'.1 p;obtain⟨d,f⟩:=cG.1 m;exact h e (by simpa using d) f
def UT{l:List Oper} {L:Nat->Bool} (y:∀(i:Nat)(o:Oper),l[i]?=some o->L i=true->∀e∈o.after,Region.binds .any e=true->L e.on=true) {S:List Nat} (C:∀i∈S,L i=true):∀i∈AI l S,L i=true:=by
 have p:∀(g d:List Nat),(∀i∈d,L i=true)->(∀i∈g,L i=true)->∀i∈g.foldl (fun a e=>if a.contains e then a else a++[e]) d,L i=true:=by intro g;induction g with|nil=>intro d h _ i m;exact h i m|cons e g ih=>
   intro d h s i m;refine ih _ (fun j f=>?_) (fun j f=>s j (by simp[f])) i m;dsimp only at f;split at f;·exact h j f
   .rcases C1.1 f with f|f;·exact h j f
    .rw[y2]at f;subst f;exact s _ Qd
 have r:∀(T d:List Nat),(∀i∈T,L i=true)->(∀i∈d,L i=true)->∀i∈T.foldl (fun d i=>match l[i]? with|some o=>(q7 o).foldl (fun a e=>if a.contains e then a else a++[e]) d|none=>d) d,L i=true:=by intro T;induction T with
  |nil=>intro d _ h i m;exact h i m|cons t T ih=>
   intro d u h i m;refine ih _ (fun j f=>u j (by simp[f])) (fun j f=>?_) i m;dsimp only at f;split at f;·rename_i o z;exact p _ _ h (qD (y t o z (u t Qd))) j f
   .exact h j f
 exact r S S C C
def uU{l:List Oper} {L:Nat->Bool} (d:∀(i:Nat)(o:Oper),l[i]?=some o->L i=true->∀e∈o.after,Region.binds .any e=true->L e.on=true):∀(n:Nat) {S:List Nat},(∀i∈S,L i=true)->∀i∈nI l n S,L i=true|0,_,hS=>hS|n+1,_,hS=>uU d n (UT d hS)
def nJ{l:List Oper} {g:List Nat} {d:Nat->List Nat} (h:jG l g d=true) {L:Nat->Bool} (p:∀(i:Nat)(o:Oper),l[i]?=some o->L i=true->∀e∈o.after,Region.binds .any e=true->L e.on=true) {j:Nat} (s:j∈g) {o:Oper} (t:l[j]?=some o)(u:∀e∈o.after,Region.binds .any e=true->L e.on=true):∀i∈d j,L i=true:=by have f:=bJ.1 h j s;rw[t]at f;intro i r;have m:=bJ.1 f i r;exact uU p _ (qD u) i (by simpa using m)
def AJ(d:Array Oper):Bool:=(List.range d.size).all fun i=>match d[i]? with|some o=>o.after.all fun e=>!Region.binds .any e||decide (e.on<i)|none=>true
def UU{g:Array Oper} (h:AJ g=true)(i:Nat)(o:Oper)(e:Edge)(m:g[i]?=some o)(p:e∈o.after)(r:Region.binds .any e=true):e.on<i:=by have d:=bJ.1 h i (y0.2 (E5 m));rw[m]at d;have f:=uQ.1 d e p;rw[r]at f;simpa using f
def IW{g:Array Oper} (H:∀(i:Nat)(o:Oper)(e:Edge),g[i]?=some o->e∈o.after->Region.binds .any e=true->e.on<i) {d:Array Bool} (y:d.size=g.size)(h:Region.ready .any g d=[]):∀j,j<g.size->d.getD j true=true:=by intro j;induction j using Nat.strongRecOn with|_ j ih=>intro m;cases u:d.getD j true with
  |true=>rfl|false=>exfalso;have:j∈Region.ready .any g d:=fQ.2 ⟨u,g[j],y1 m,fun e t s=>by
    have p:=H j _ e (y1 m) t s;have f:=ih e.on p Qa;have r:e.on<d.size:=Qa
    simp[r]at f |-;exact f⟩;rw[h]at this;cases this
def H2 {Q : Exit -> Act -> World -> Prop} {a0 : Act} {w : World} {l : List Oper} (n : Nat) (O : Oper) (hn : l.length = n + 1) (hz : l[n]? = some O)
    (hB : AJ (l.take n).toArray = true) (hG : l.all (fun o => o.guard.isNone) = true) (hA : (List.range n).all (fun i => (nI l l.length (q7 O)).contains i) = true) (hE : O.after.all (fun e => !Region.binds .any e || decide (e.on < n)) = true)
    (h : wpAny P .any (l.take n).toArray (fun e a x => match e with | .normal => O.wp P a x (fun g E => Q .normal g E) Q | e => Q e a x) (l.take n).toArray.size (Array.replicate (l.take n).toArray.size false) a0 { w with drawn := w.drawn + 1 }) :
    wpAny P .any l.toArray Q l.toArray.size (Array.replicate l.toArray.size false) a0 { w with drawn := w.drawn + 1 } := by
  have H := UU hB
  have bA : (l.take n).length = n := Qo
  have aJ : ∀ (i : Nat) (o : Oper), l[i]? = some o -> o.guard = none := fun i o u => by
    have := bJ.1 hG o (n2 u)
    simpa using this
  have G : ∀ i, i < n -> (l.take n).toArray[i]? = l.toArray[i]? := fun i D => by simp [p7 D]
  have Z : ∀ i, n <= i -> (l.take n).toArray[i]? = none := fun i D => by simp [bE (show (l.take n).length <= i by omega)]
  have p : ∀ (m : Array Bool) (b d : Bool) (i : Nat), m.size = n -> i < n -> (m.push b).getD i d = m.getD i d := fun m b d i s D => by
    rw [fX, fX, cZ Qa]
    simp [y1 (show i < m.size by omega)]
  have X : ∀ (m : Array Bool) (b d : Bool), m.size = n -> (m.push b).getD n d = b := fun m b d s => by
    rw [fX, <- s]
    simp
  have aQ : ∀ (m : Array Bool) (b : Bool) (i : Nat), m.size = n -> i < n -> (i ∈ Region.ready .any l.toArray (m.push b) ↔ i ∈ Region.ready .any (l.take n).toArray m) := fun m b i s D => by
    rw [fQ, fQ, p _ _ _ _ s D, G i D]
    constructor
    . rintro ⟨I, o, u, h2⟩
      refine ⟨I, o, u, fun e z N => ?_⟩
      have := H i o e ((G i D).trans u) z N
      rw [<- p m b false e.on s Qa]
      exact h2 e z N
    . rintro ⟨I, o, u, h2⟩
      refine ⟨I, o, u, fun e z N => ?_⟩
      have := H i o e ((G i D).trans u) z N
      rw [p m b false e.on s Qa]
      exact h2 e z N
  let Cl : Array Bool -> Prop := fun m => ∀ (i : Nat) (o : Oper), l[i]? = some o -> i < n -> m.getD i true = true -> ∀ e ∈ o.after, Region.binds .any e = true -> m.getD e.on true = true
  have aR : ∀ (f : Nat) (m : Array Bool) (a : Act) (x : World), m.size = n -> Cl m -> wpAny P .any (l.take n).toArray (fun e a x => match e with | .normal => O.wp P a x (fun g E => Q .normal g E) Q | e => Q e a x) f m a x -> wpAny P .any l.toArray Q (f + 1) (m.push false) a x := by
    have aG : ∀ (f : Nat) (m : Array Bool) (a : Act) (x : World), m.size = n -> (∀ i, i < n -> m.getD i true = true) -> O.wp P a x (fun g E => Q .normal g E) Q -> wpAny P .any l.toArray Q (f + 1) (m.push false) a x := by
      intro f m a x s hu hw
      have aO : n ∈ Region.ready .any l.toArray (m.push false) := by
        rw [fQ]
        refine ⟨X _ _ _ s, O, by simpa using hz, fun e z N => ?_⟩
        have I := uQ.1 hE e z
        rw [N] at I
        simp only [tR, p0, z1] at I
        rw [p _ _ _ _ s I]
        have := hu e.on I
        rw [fX, y1 Qa] at this |-
        exact this
      refine ⟨fun h0 => (by rw [h0] at aO; cases aO), fun i D => ?_⟩
      have t : i = n := by
        obtain ⟨I, o, u, -⟩ := fQ.1 D
        have aL : i < l.length := by simpa using E5 u
        rcases gK i n with h | h
        . rw [p _ _ _ _ s h, hu i h] at I
          cases I
        . omega
      subst t
      have V : (m.push false).setIfInBounds i true = m.push true := by
        apply cF
        intro j
        rw [bD, eD, eD]
        simp only [Array.size_push, s]
        by_cases h : i = j
        . subst h; simp [s]
        . simp [h, s, hV h]
      have aT : wpAny P .any l.toArray Q f (m.push true) = fun g E => wpAny P .any l.toArray Q f (m.push true) g E := rfl
      have K : Region.ready .any l.toArray (m.push true) = [] := by
        rw [zT]
        intro j Y
        obtain ⟨I, o, u, -⟩ := fQ.1 Y
        have aL : j < l.length := by simpa using E5 u
        rcases gK j i with h | h
        . rw [p _ _ _ _ s h, hu j h] at I
          cases I
        . have : j = i := Qa
          subst this
          rw [X _ _ _ s] at I
          cases I
      have hK : ∀ g E, Q .normal g E -> wpAny P .any l.toArray Q f (m.push true) g E := fun g E h => by
        cases f with
        | zero => exact ⟨K, h⟩
        | succ f => exact ⟨fun _ => h, fun j Y => by rw [K] at Y; cases Y⟩
      unfold wpOp
      have aX : l.toArray[i]? = some O := by simpa using hz
      simp only [aX]
      have aW : Region.wanted O (yielded l.toArray a.tmps) = true := by unfold Region.wanted; rw [aJ i O hz]
      rw [r4 aW, V]
      exact .inl (uP hK hw)
    intro f
    induction f with
    | zero =>
      rintro m a x s aC ⟨hr, hq⟩
      exact aG 0 m a x s (fun i D => IW H (by simp [s]; omega) hr i Qo) hq
    | succ f ih =>
      rintro m a x s aC ⟨hr, hq⟩
      by_cases K : Region.ready .any (l.take n).toArray m = []
      . exact aG (f + 1) m a x s (fun i D => IW H (by simp [s]; omega) K i Qo) (hr K)
      . have aU : ∀ i, i ∈ Region.ready .any l.toArray (m.push false) -> i < n := by
          intro i D
          obtain ⟨I, o, u, h2⟩ := fQ.1 D
          have aL : i < l.length := by simpa using E5 u
          rcases gK i n with h | h
          . exact h
          . have t : i = n := Qa
            subst t
            exfalso
            obtain ⟨j, Y⟩ := IM _ K
            obtain ⟨h3, o3, S, -⟩ := fQ.1 Y
            have aE : j < i := by
              rcases gK j i with h | h
              . exact h
              . rw [Z j h] at S; cases S
            have aY : o = O := by
              rw [show l.toArray[i]? = l[i]? by simp, hz] at u
              exact (D3 u).symm
            subst aY
            have h4 := bJ.1 hA j (y0.2 aE)
            have U : ∀ e ∈ o.after, Region.binds .any e = true -> m.getD e.on true = true := fun e z N => by
              have C := h2 e z N
              have aA := uQ.1 hE e z
              rw [N] at aA
              simp only [tR, p0, z1] at aA
              rw [p _ _ _ _ s aA] at C
              exact lU C
            have C := uU (l := l) (L := fun k => m.getD k true) (fun k o' J hL e z N => by
              rcases gK k i with hk | hk
              . exact aC k o' J hk hL e z N
              . have bB : k < l.length := (y'.1 J).1
                obtain rfl : k = i := Qa
                rw [hz] at J
                obtain rfl : o = o' := D3 J
                exact U e z N) l.length (qD U) j (by simpa using h4)
            rw [fX, y1 Qa] at h3 C
            simp only [hW] at h3 C
            rw [h3] at C
            cases C
        refine ⟨fun h0 => ?_, fun i D => ?_⟩
        . exfalso
          obtain ⟨j, Y⟩ := IM _ K
          have aE : j < n := by
            obtain ⟨h3, o3, S, -⟩ := fQ.1 Y
            rcases gK j n with h | h
            . exact h
            . rw [Z j h] at S; cases S
          have := (aQ m false j s aE).2 Y
          rw [h0] at this
          cases this
        . have t := aU i D
          have aD := (aQ m false i s t).1 D
          have R := hq i aD
          obtain ⟨-, o, u, -⟩ := fQ.1 aD
          have aN : l.toArray[i]? = some o := (G i t).symm.trans u
          have hg := aJ i o (by simpa using aN)
          unfold wpOp at R |-
          simp only [u] at R
          simp only [aN]
          have aP : ∀ y, Region.wanted o y = true := fun y => by unfold Region.wanted; rw [hg]
          rw [r4 (aP _)] at R
          rw [r4 (aP _)]
          have V : (m.push false).setIfInBounds i true = (m.setIfInBounds i true).push false := by
            apply cF
            intro j
            rw [bD, eD, eD, bD]
            simp only [Array.size_push, zW, s]
            by_cases h : i = j
            . subst h; simp [s, t, Nat.lt_succ_of_lt t, Nat.ne_of_lt t]
            . simp [h]
          rw [V]
          have aI : Cl (m.setIfInBounds i true) := by
            intro i' o' J aS hL e z aH
            have aZ : m.getD e.on true = true := by
              by_cases aK : i = i'
              . subst aK
                obtain ⟨-, o2, aM, aB⟩ := fQ.1 aD
                rw [G i t] at aM
                have e2 : l[i]? = some o2 := by simpa using aM
                rw [J] at e2
                obtain rfl : o' = o2 := D3 e2
                exact lU (aB e z aH)
              . rw [gM true aK] at hL
                exact aC i' o' J aS hL e z aH
            by_cases U : i = e.on
            . rw [U, pW]
            . rw [gM true U]; exact aZ
          have aF : ∀ g E, wpAny P .any (l.take n).toArray (fun e a x => match e with | .normal => O.wp P a x (fun g E => Q .normal g E) Q | e => Q e a x) f (m.setIfInBounds i true) g E -> wpAny P .any l.toArray Q (f + 1) ((m.setIfInBounds i true).push false) g E := fun g E h => ih _ g E (by simp [s]) aI h
          rcases R with R | ⟨R, h7⟩
          . left
            refine uP aF ?_
            unfold Oper.wp at R |-
            generalize (execOp a.eval o).run P x = r at *
            cases r with
            | ok nx w' =>
              cases nx with
              | enter f' args => exact (show Calls P f' args w' _ from R).mono fun e bC z => by cases e <;> exact z
              | _ => exact R
            | halt v w' => cases v <;> exact R
          . right
            exact ⟨R, h7⟩
  have aV : (Array.replicate (l.take n).toArray.size false).push false = Array.replicate l.toArray.size false := by
    rw [<- jF]
    congr 1
    simp
    omega
  have := aR _ _ _ _ Qo (fun i o u D hL => by
    rw [fX, y1 Qo] at hL
    simp at hL) h
  rw [aV] at this
  have e : (l.take n).toArray.size + 1 = l.toArray.size := Qo
  rwa [e] at this
def o7{K:Act->World->Prop} {Q:Exit->Act->World->Prop} {o:Oper} {a:Act} {w:World} (v:Value)(h:(execOp a.eval o).run P w=.ok (.value v) w)(d:K (a.put o.dst v) w):o.wp P a w K Q:=by unfold Oper.wp;rw[h];exact d
def UW{K:Act->World->Prop} {Q:Exit->Act->World->Prop} {o:Oper} {a:Act} {w:World} (p q:Operand)(t:TypeId)(s:o.op=.store t p q)(b:Nat)(e cs:List Value)(T:TypeId)(G:a.eval p=.pointer (some b))(hq:a.eval q=.agg e.toArray)(d:(sizeOf t).run P w=.ok e.length w)(C:w.heap[b]?=some (.cells cs.toArray T))(r:cs.length=e.length)(m:∀u∈e,u.oneCell'=true)(h:∀g,g.heap[b]?=some (.cells e.toArray T)->w.grownBy g (some b)->g.heap.size=w.heap.size->K (a.put o.dst undef) g):o.wp P a w K Q:=by
 obtain⟨f,y,z,D,E⟩:=uL (P:=P) b T e 0 cs w C Qa m;unfold Oper.wp execOp;have i:(storeVar t ⟨b,0,none⟩ (.agg e.toArray)).run P w=.ok () f:=by unfold storeVar;simp only[aC,d,aA,Value.cells,M0,gI,Q7,Zyk];exact y
 simp only[s,Instr.storeAt,Instr.sureAddr,G,hq,aC,aB,aA,i];refine h f ?_ D E;rw[z];congr 2;apply w6;simp[r]
end
section
variable {P:Program}
def qE{K i:Value->World->Prop} {r:Result Next} (h:bT P K r)(d:∀v x,K v x->i v x):bT P i r:=by cases r with
 |ok n x=>
  cases n<;>simp only[bT]at h |-;case value v=>exact d _ _ h
  case skip=>exact d _ _ h
  case enter f args=>exact h.mono fun e p ⟨v,m,o⟩=>⟨v,m,d _ _ o⟩|halt hh x=>exact h
def EI(d:List Nat)(f:Nat->Nat)(L:Nat->Bool)(j:Nat):Bool:=d.any fun k=>f k==j&&L k
def RR{Q:Exit->Act->World->Prop} {a0:Act} {w:World} {l:List Oper} (w0:World)(C:World->Prop)(r m:List Nat)(y:Nat->Nat)(N:Nat->List Nat)(mk:Nat->Gh->Value)(R:Nat->Bool->(Nat->Gh)->World->Prop)(Own:Nat->Gh->Nat->Prop)(af:(Nat->Gh)->Act)(hB:bK l.toArray=true)(hB':∀g,bK (mixL (r++m) mk g 0 l).toArray=true)(hS:Region.noSelect l.toArray=true)(hN:spB l.toArray (r++m)=true)(hnd:(r++m).Nodup)(htg:∀k∈m,y k∈r/\y k∈N k)(hinj:∀k∈m,∀k'∈m,y k=y k'->k=k')(hD:jG l (r++m) N=true)(hkd:m.all (fun k=>match l[k]? with|some o=>o.dst.isNone|none=>false)=true)(hC0:C w)(hCs:∀x D,C x->QB x D->C D)(hCw:∀x,C x->QB w0 x)(hCz:∀x,C x->w.heap.size<=x.heap.size)(hCo:∀x D b,C x->OnlyB b x D->w.heap.size<=b->C D)(hRb:∀j f g x D,R j f g x->QB x D->R j f g D)(hRg:∀i f g j h x,j≠i->j∉N i->(f=true->∀k∈m,y k=i->j∉N k)->R i f g x->R i f (upd g j h) x)(hRo:∀i f g b x D,C x->R i f g x->OnlyB b x D->w.heap.size<=b->¬Own i (g i) b->R i f g D)(hmake:∀j∈r,∀o,l[j]?=some o->∀(g:Nat->Gh)(x:World),C x->(∀i∈N j,i∈r->∃f,R i f g x/\∀b,Own i (g i) b->w.heap.size<=b/\b<x.heap.size)->bT P (fun v D=>∃h,v=mk j h/\R j false (upd g j h) D/\QB x D/\∀b,Own j h b->x.heap.size<=b/\b<D.heap.size) ((execOp (af g).eval o).run P x))(hstore:∀k∈m,∀o,l[k]?=some o->∀(g:Nat->Gh)(x:World),C x->R (y k) false g x->(∀i∈N k,i∈r->i≠y k->∃f,R i f g x)->∃D b,(execOp (af g).eval o).run P x=.ok .skip D/\Own (y k) (g (y k)) b/\OnlyB b x D/\R (y k) true g D)(hq:∀g u,C u->(∀(x:Grew u)(b o:Nat),b<u.heap.size->x.val.cell? ⟨b,o,none⟩=u.cell? ⟨b,o,none⟩)->Hid (∀x:Grew u,QB w0 x.val)->Hid (∀x:Grew u,C x.val)->wpQuiet P (mixL (r++m) mk g 0 l).toArray (fun w'=>∃x:Grew u,w'=x.val) (fun a'=>a'=af g) (mixL (r++m) mk g 0 l) a0)(hind:∀j∈r++m,∀g h,bM (bR l.toArray j 0 l []) 0 (af g).tmps.toList=bM (bR l.toArray j 0 l []) 0 (af (upd g j h)).tmps.toList)(hend:∀(g:Nat->Gh)(x:World),C x->(∀j∈r,R j (m.any fun k=>y k==j) g x/\(∀b,Own j (g j) b->w.heap.size<=b/\b<x.heap.size)/\∀i∈r,i≠j->∀b,Own j (g j) b->¬Own i (g i) b)->Q .normal (af g) x):wpAny P .any l.toArray Q l.toArray.size (Array.replicate l.toArray.size false) a0 {w with drawn:=w.drawn+1}:=by
 have aN:∀k∈m,∀o,l[k]?=some o->o.dst=none:=fun k hk o ho=>by have:=bJ.1 hkd k hk;rw[ho]at this;simpa using this
 have aC:∀j∈r,j∉m:=fun j X J=>by obtain⟨-,-,h⟩:=List.nodup_append.1 hnd;exact h j X j J rfl
 have aK:∀(L:Nat->Bool)(j k:Nat),j∈r->EI m y (bU L j) k=EI m y L k:=fun L j k X=>by
  unfold EI;rw[cV,bL,bL];constructor;·rintro⟨s,J,h⟩;have:s≠j:=fun e=>aC j X (e▸J);rw[ZK this]at h;exact⟨s,J,h⟩
  .rintro⟨s,J,h⟩;have:s≠j:=fun e=>aC j X (e▸J);exact⟨s,J,by rw[ZK this];exact h⟩
 refine A6 w0 C (r++m) mk (fun L g x=>∀j∈r,L j=true->R j (EI m y L j) g x/\(∀b,Own j (g j) b->w.heap.size<=b/\b<x.heap.size)/\∀i∈r,i≠j->L i=true->∀b,Own j (g j) b->¬Own i (g i) b) af hB hB' hS hN hC0 hCs hCw ?_ ?_ hq hind ?_ ?_;·intro L h j X hL;rw[h j (sF _ X)]at hL;cases hL
 .intro L L' g x D h hJ hb j X hL;have hf:EI m y L' j=EI m y L j:=by
   unfold EI;rw[cV,bL,bL];constructor;·rintro⟨s,J,K⟩;rw[h s (FA _ J)]at K;exact⟨s,J,K⟩
   .rintro⟨s,J,K⟩;exact⟨s,J,by rw[h s (FA _ J)];exact K⟩
  rw[h j (sF _ X)]at hL;obtain⟨U,V,h3⟩:=hJ j X hL;rw[hf];exact⟨hRb _ _ _ _ _ U hb,fun b p=>⟨(V b p).1,h8 (V b p).2 hb.size⟩,fun i H z E=>h3 i H z (by rw[<-h i (sF _ H)];exact E)⟩
 .intro j X o ho L g x hJ hC aR hL aD aA;have aH:=nJ hD aA X ho aD;have aG:∀i∈r++m,L i=true->∀d∈N i,L d=true:=fun i H E d hd=>by
   have:∃o,l[i]?=some o:=by have U:=bJ.1 hD i H;cases V:l[i]? with
    |none=>rw[V]at U;cases U|some o=>exact⟨o,rfl⟩
   obtain⟨o',aE⟩:=this;exact nJ hD aA H aE (aA i o' aE E) d hd
  rcases C1.1 X with aO|I
  .have aV:=hmake j aO o ho g x hC fun i H S=>by obtain⟨U,V,-⟩:=hJ i S (aH i H);exact⟨_,U,V⟩
   refine qE aV ?_;rintro v D ⟨h,rfl,hR,hb,hO⟩;refine⟨hCs _ _ hC hb,.inr ⟨h,rfl,fun i H E=>?_⟩⟩;rw[aK L j i aO];by_cases O:i=j
   .subst O;have aI:EI m y L i=false:=by unfold EI;rw[bN];intro k hk Y;simp only[aY,bY]at Y;have:=aG k (FA _ hk) Y.2 (y k) (htg k hk).2;rw[Y.1,hL]at this;cases this
    rw[aI];refine⟨hR,fun b p=>?_,fun Z G z t b p=>?_⟩;·rw[e0]at p;have:=hO b p;exact⟨w7 (hCz x hC) this.1,this.2⟩
    .rw[e0]at p;rw[upd_ne z];intro aF;rw[ZK z]at t;have U:=(hO b p).1;have V:=((hJ Z G t).2.1 b aF).2;omega
   .rw[ZK O]at E;obtain⟨U,V,h3⟩:=hJ i H E;refine⟨hRg i _ g j h D (hV O) (fun hd=>?_) (fun hf k hk aU hd=>?_) (hRb _ _ _ _ _ U hb),fun b p=>?_,fun Z G z t b p=>?_⟩;·have:=aG i (sF _ H) E j hd;rw[hL]at this;cases this
    .have aS:L k=true:=by unfold EI at hf;obtain⟨k',aT,Y⟩:=bL.1 hf;simp only[aY,bY]at Y;have:=hinj k' aT k hk (Y.1.trans aU.symm);rw[<-this];exact Y.2
     have:=aG k (FA _ hk) aS j hd;rw[hL]at this;cases this
    .rw[upd_ne O]at p;have:=V b p;exact⟨this.1,h8 this.2 hb.size⟩
    .rw[upd_ne O]at p;by_cases aB:Z=j;·subst aB;rw[e0];intro aF;have U:=(hO b aF).1;have aX:=(V b p).2;omega
     .rw[upd_ne aB];rw[ZK aB]at t;exact h3 Z G z t b p
  .obtain⟨aQ,aW⟩:=htg j I;have aL:=aH _ aW;obtain⟨m1,m2,m3⟩:=hJ _ aQ aL;have aI:EI m y L (y j)=false:=by unfold EI;rw[bN];intro k hk Y;simp only[aY,bY]at Y;have:=hinj k hk j I Y.1;rw[this,hL]at Y;cases Y.2
   rw[aI]at m1;obtain⟨D,b,r1,r2,r3,r4⟩:=hstore j I o ho g x hC m1 fun i H S z=>⟨_,(hJ i S (aH i H)).1⟩;have aM:=m2 b r2;have aP:=(r3.below 0 (e6 _)).size;refine gN r1 ⟨hCo _ _ _ hC r3 aM.1,.inl ⟨aN j I o ho,fun i H E=>?_⟩⟩;have O:i≠j:=fun e=>aC i H (e▸I);rw[ZK O]at E;by_cases S:i=y j
   .subst S;have aJ:EI m y (bU L j) (y j)=true:=by unfold EI;rw[bL];exact⟨j,I,by rw[A8];simp⟩
    rw[aJ];refine⟨r4,fun b' p=>?_,fun Z G z t=>?_⟩;·have:=m2 b' p;exact⟨this.1,h8 this.2 aP⟩
    .rw[ZK (show Z≠j from fun e=>aC Z G (e▸I))]at t;exact m3 Z G z t
   .have aJ:EI m y (bU L j) i=EI m y L i:=by
     unfold EI;rw[cV,bL,bL];constructor;·rintro⟨s,J,K⟩;simp only[aY,bY]at K;have:s≠j:=fun e=>S (by rw[<-K.1,e]);rw[ZK this]at K;exact⟨s,J,by simp[K.1,K.2]⟩
     .rintro⟨s,J,K⟩;simp only[aY,bY]at K;have:s≠j:=fun e=>by rw[e,hL]at K;cases K.2
      exact⟨s,J,by rw[ZK this];simp[K.1,K.2]⟩
    rw[aJ];obtain⟨U,V,h3⟩:=hJ i H E;refine⟨hRo _ _ _ b _ _ hC U r3 aM.1 (fun aE=>h3 (y j) aQ (hV S) aL b aE r2),fun b' p=>?_,fun Z G z t=>?_⟩;·have:=V b' p;exact⟨this.1,h8 this.2 aP⟩
    .rw[ZK (show Z≠j from fun e=>aC Z G (e▸I))]at t;exact h3 Z G z t
 .intro g x hJ hC aR;refine hend g x hC fun j X=>?_;obtain⟨U,V,h3⟩:=hJ j X rfl;refine⟨?_,V,fun i H z=>h3 i H z rfl⟩;have:EI m y (fun _=>true) j=m.any fun k=>y k==j:=by simp[EI]
  rw[<-this];exact U
end
end Go.Proofs
namespace Go.Proofs
def uV:∀(n:Nat)(l:List Int),l.length<=n->dotL (List.replicate n 1) l=l.sum|n,[],_=>by cases n<;>simp[List.replicate,dotL]|0,_::_,h=>by simp at h|n+1,x::l,h=>by simp only[l6,dotL,aF];rw[uV n l (by simpa using h)];omega
def jH(n i k:Nat)(d:k<n):(hY n i).getD k 0=if k=i then 1 else 0:=by simp[hY,h6,bH d]
def UX(m:List Int)(i:Nat):wsum m (fun k=>if k=i then 1 else 0)=m.getD i 0:=by induction m generalizing i with
 |nil=>simp[wsum]|cons x m ih=>cases i with
  |zero=>
   have:wsum m (fun k=>if k+1=0 then (1:Int)else 0)=0:=by rw[show (fun k:Nat=>if k+1=0 then (1:Int)else 0)=fun _=>0 by funext k;simp];exact uF m
   simp only[wsum,this];simp|succ i=>have:=ih i;simp only[wsum];rw[show (fun k:Nat=>if k+1=i+1 then (1:Int)else 0)=fun k=>if k=i then 1 else 0 by funext k;simp];rw[this];simp
def AK{n i:Nat} {l:List Int} (h:l.length<=n):dotL (hY n i) l=l.getD i 0:=by rw[U7 _ _ (by simp[hY];exact h),<-UX l i];apply y7;intro k x d _;exact jH n i k (h8 (y'.1 d).1 h)
structure MixOf (np:Nat)(es:List Ex)(z t:List Nat)(m:List Int)(d:Int):Prop where
 len:m.length=np
 den:0<d
 nn:∀x∈m,0<=x
 sum:m.sum=d
 zero:∀i∈z,m.getD i 0=0
 per:∀x∈es,dotL x.1 m<=x.2*d
 tight:∀i∈t,∀x,es[i]?=some x->dotL x.1 m=x.2*d
def IX(g:Int):∀m:List Int,(m.map (g*·)).sum=g*m.sum|[]=>by simp|x::m=>by simp only[p1,aF];rw[IX g m];grind
def UY(g:Int)(m:List Int)(i:Nat):(m.map (g*·)).getD i 0=g*m.getD i 0:=by simp only[h6,k3];cases m[i]?<;>simp
def jI{e:Nat} {j:List Ex} {z t:List Nat} {m:List Int} {d:Int} (h:A' e j z t=some (m,d))(X:1<=e)(v:e<=5)(H:∀x∈j,x.1.length=e)(n:∀i∈z,i<e)(Z:∀i∈t,i<j.length)(q:z.length+t.length+1=e):MixOf e j z t m d:=by
 unfold A' at h;split at h;·cases h
 rename_i l c Y;split at h;·cases h
 rename_i I;split at h;·cases h
 rename_i s;have J:(c9 e j z t).length=e:=by simp[c9];omega
 have K:∀k∈c9 e j z t,k.length=(c9 e j z t).length+1:=by
  intro k Q;rw[J];simp only[c9,ZA1,C1,L']at Q;rcases Q with rfl|⟨i,y,rfl⟩|⟨i,y,rfl⟩;·simp
  .simp[hY]
  .have r:j.getD i default∈j:=by rw[h6,k2 (Z i y)];exact D1 _
   rw[M1,H _ r];rfl
 obtain⟨E,o,p⟩:=Sp Y Qa K;rw[J]at o p;have w:0<gcdL 0 (c::l):=B6 c Qd Qa;obtain⟨-,G⟩:=X0 (c::l) 0;generalize gcdL 0 (c::l)=g at*;have u:(0:Int)<g:=Qa
 obtain⟨rfl,rfl⟩:_/\_:=by simpa using h
 have S:=zB u (l:=l) fun x r=>G x (by simp[r]);have R:(g:Int)*(c / g)=c:=mX (G c Qd);have D:(l.map (· / (g:Int))).length=e:=by simpa using o
 generalize l.map (· / (g:Int))=m at*;generalize c / (g:Int)=d at*;subst S R;have f:∀{a b:Int},(g:Int)*a=g*b->a=b:=fun h=>zX Qa h;refine⟨D,?_,?_,?_,?_,?_,?_⟩;·exact zY (a:=(g:Int)) (by simpa using E) Qa
 .intro x r;simp only[bL,L',z1,not_exists,not_and]at I;have:=I (g*x) ⟨x,r,rfl⟩;have U:0<=(g:Int)*x:=Qa
  exact R3 (a:=(g:Int)) (by simpa using U) u
 .have:=p (List.replicate (e+1) 1) (by simp[c9]);rw[uV _ _ (by rw[o];omega),IX]at this;have N:(List.replicate (e+1) (1:Int)).getD e 0=1:=by simp[h6]
  rw[N]at this;exact f Qa
 .intro i y;have:=p (hY (e+1) i) (by simp only[c9,ZA1,C1,L'];exact .inr (.inl ⟨i,y,rfl⟩));rw[AK (by rw[o];omega),jH _ _ _ Qa,Zc9 (by have:=n i y;omega),UY]at this;exact f Qa
 .intro x r;simp only[bL,not_exists,not_and]at s;have:=s x r;simp only[b5,zZ,Bool.not_eq_false,Int.not_le,Int.not_lt,z1]at this;rw[FW]at this;have V:(g:Int)*dotL x.1 m<=g*(x.2*d):=Qn
  exact R3 V u
 .intro i y x r;have O:j.getD i default=x:=by rw[h6,r];rfl
  have:=p (x.1++[x.2]) (by simp only[c9,ZA1,C1,L'];exact .inr (.inr ⟨i,y,by rw[O]⟩));have L:=H x (n2 r);rw[y8 _ _ _ (by rw[o,L]),FW]at this;have N:(x.1++[x.2]).getD e 0=x.2:=by simp[h6,<-L]
  rw[N]at this;exact f Qn
def Asc.nodup{b:Nat}:∀{l:List Nat} {a:Nat},Asc a b l->l.Nodup|[],_,_=>jD|x::t,a,h=>eU.2 ⟨fun d=>by have:=(Asc.lt h.2.2 x d).1;omega,h.2.2.nodup⟩
def inR(k n x:Nat):Bool:=decide (k<=x)&&decide (x<k+n)
def UZ(k n x:Nat):(if inR k (n+1) x=true then 1 else 0)=(if (x==k)=true then 1 else 0)+if inR (k+1) n x=true then 1 else 0:=by simp only[inR,aY,z1,bY];split<;>split<;>split<;>omega
def IY(k n:Nat):∀z:List Nat,z.countP (inR k (n+1))=z.count k+z.countP (inR (k+1) n)|[]=>rfl|x::z=>by have:=IY k n z;have d:=UZ k n x;rw[sN,sN,List.count_cons,this];omega
def lX(es:List Ex) {z t:List Nat} (i:z.Nodup):∀(h:List Int)(k:Nat),(proofRows es z t k h).length+z.countP (inR k h.length)=h.length
 |[],k=>by
  have:z.countP (inR k ([]:List Int).length)=0:=by rw[List.countP_eq_zero];intro x _;simp[inR]
  rw[this];rfl|w::h,k=>by
  have f:=lX es i h (k+1) (z:=z) (t:=t);rw[r3,IY,i.count];unfold proofRows;by_cases d:k∈z;·simp only[r4 d];omega
  .simp only[Zc9 d,r3];omega
def uW(c:List Ex) {z t:List Nat}:∀(b:List Int)(d j:Nat)(w:Int),b[j]?=some w->d+j∉z->e3 c t (d+j) w∈proofRows c z t d b
 |[],_,j,w,h,_=>by simp at h|v::b,d,0,w,h,hz=>by simp at h;subst h;unfold proofRows;rw[Zc9 (by simpa using hz)];exact eT ..|v::b,d,j+1,w,h,hz=>by
  have:=uW c (t:=t) b (d+1) j w (by simpa using h) (by rwa [show d+1+j=d+(j+1)by omega]);rw[show d+1+j=d+(j+1)by omega]at this;unfold proofRows;split;·exact this
  .exact N2 _ this
def lC(es:List Ex) {z t:List Nat}:∀(i:List Int)(k:Nat),∀d∈proofRows es z t k i,d.length=t.length+2
 |[],k,d,h=>by cases h|v::i,k,d,h=>by
  unfold proofRows at h;split at h;·exact lC es i _ d h
  .rcases ZA1.1 h with rfl|h;·simp[e3]
   .exact lC es i _ d h
def B8(b:List Ex)(l:List Int)(c:Nat):Nat->List Nat->Int|_,[]=>0|k,i::t=>l.getD (k+1) 0*(b.getD i default).1.getD c 0+B8 b l c (k+1) t
def IZ(e:List Ex)(l:List Int)(c:Nat)(w:Int):∀(t:List Nat)(k:Nat)(b:List Int),b.length=t.length->(∀j,j<t.length->b.getD j 0=l.getD (k+1+j) 0)->dotL (t.map (fun i=>-((e.getD i default).1.getD c 0))++[w]) b=-B8 e l c k t
 |[],k,b,h,_=>by have:b=[]:=dR h;subst this;simp[dotL,B8]|i::t,k,[],h,_=>by simp at h|i::t,k,x::b,h,hl=>by
  have d:=hl 0 Qd;simp only[hE,sW]at d;have:=IZ e l c w t (k+1) b (by simpa using h) fun j f=>by have:=hl (j+1) (by simpa using f);rw[hR]at this;rw[this];congr 1;omega
  simp only[p1,hP,dotL,B8];rw[this,d];grind
def sY(l:List Int):∀(t:List Nat)(k:Nat)(W:List Int),(putW l k t W).length=W.length|[],_,_=>rfl|i::t,k,W=>by unfold putW;rw[sY l t];simp
def I0(l:List Int):∀(t:List Nat)(k:Nat)(W:List Int)(i:Nat),i∉t->(putW l k t W)[i]?=W[i]?|[],_,_,_,_=>rfl|j::t,k,W,i,h=>by unfold putW;rw[I0 l t _ _ _ (fun d=>h (N2 _ d)),q6 (by rintro rfl;exact h (eT ..))]
def I1(c:Nat)(v:Int):∀(a:List Ex)(W:List Int)(i:Nat),i<a.length->i<W.length->putsL a (W.set i v) c=putsL a W c+(v-W.getD i 0)*(a.getD i default).1.getD c 0|[],_,_,h,_=>by simp at h|_::_,[],_,_,h=>by simp at h|x::a,w::W,0,_,_=>by simp only[List.set_cons_zero,putsL,hE];grind|x::a,w::W,i+1,h,h'=>by simp only[List.set_cons_succ,putsL,hR];rw[I1 c v a W i (by simpa using h) (by simpa using h')];omega
def uX(b:List Ex)(l:List Int)(c:Nat):∀(t:List Nat)(k:Nat)(W:List Int),W.length=b.length->t.Nodup->(∀i∈t,i<b.length)->(∀i∈t,W.getD i 0=0)->putsL b (putW l k t W) c=putsL b W c+B8 b l c k t|[],k,W,_,_,_,_=>by simp[putW,B8]|i::t,k,W,hW,hnd,ht,h0=>by obtain⟨h,d⟩:=eU.1 hnd;unfold putW;rw[uX b l c t (k+1) _ (by simpa using hW) d (fun j f=>ht j (N2 _ f)) (fun j f=>by rw[h6,q6 (by rintro rfl;exact h f),<-h6];exact h0 j (N2 _ f)),I1 c _ b W i (ht i (eT ..)) (by rw[hW];exact ht i (eT ..)),h0 i (eT ..)];simp only[B8,Int.sub_zero];omega
def AL(c n:Nat):∀b:List Ex,putsL b (List.replicate n 0) c=0:=by induction n with|zero=>intro b;cases b<;>simp[putsL]|succ n ih=>intro b;cases b with|nil=>simp[putsL]|cons x b=>simp only[l6,putsL];rw[ih b];simp
def I2(l:List Int):∀(t:List Nat)(k:Nat)(W:List Int),(∀w∈W,0<=w)->(∀j,j<t.length->0<=l.getD (k+1+j) 0)->∀w∈putW l k t W,0<=w
 |[],_,_,h,_,w,hw=>h w hw|i::t,k,W,h,hl,w,hw=>by
  unfold putW at hw;refine I2 l t (k+1) _ (fun v d=>?_) (fun j f=>?_) w hw
  .rcases Jx d with d|rfl;·exact h v d
   .exact hl 0 Qd
  .have:=hl (j+1) (by simpa using f);rwa [show k+1+(j+1)=k+1+1+j by omega]at this
def I3(f:List Ex)(b c:Int)(W:List Int):∀(e:List Int)(d:Nat),F2 f b c W d e=true->∀j,j<e.length->c<=e.getD j 0*b+putsL f W (d+j)|[],_,_,j,h=>by simp at h|w::e,d,h,j,hj=>by unfold F2 at h;simp only[aY,z1]at h;cases j with|zero=>simpa using h.1|succ j=>have:=I3 f b c W e (d+1) h.2 j (by simpa using hj);rwa [show d+1+j=d+(j+1)by omega]at this
structure PrfOf (es:List Ex)(ws:List Int)(z t:List Nat)(p:Prf):Prop where
 len:p.W.length=es.length
 den:0<p.den
 nn:∀w∈p.W,0<=w
 lev:∀k,k<ws.length->p.lev<=ws.getD k 0*p.den+putsL es p.W k
 eq:∀k,k<ws.length->k∉z->p.lev=ws.getD k 0*p.den+putsL es p.W k
 sup:∀i w,p.W[i]?=some w->w≠0->i∈t
def U3{b:List Ex} {q:List Int} {z t:List Nat} {p:Prf} (h:H3 b q z t=some p)(h5:q.length<=5)(hz:∀i∈z,i<q.length)(M:z.Nodup)(ht:∀i∈t,i<b.length)(F:t.Nodup)(aD:z.length+t.length+1=q.length):PrfOf b q z t p:=by
 unfold H3 at h;split at h;·cases h
 rename_i l n C;split at h;·cases h
 rename_i I;dsimp only at h;split at h;case isFalse=>cases h
 rename_i y;have Q:(proofRows b z t 0 q).length=t.length+1:=by
  have h1:=lX b (t:=t) M q 0;have h2:z.countP (inR 0 q.length)=z.length:=by rw[p8];intro x A;have:=hz x A;simp[inR];omega
  omega
 obtain⟨L,m,o⟩:=Sp C Qa (fun P J=>by rw[Q,lC b q 0 P J]);rw[Q]at m o;have f:∀c,putsL b (putW l 0 t (List.replicate b.length 0)) c=B8 b l c 0 t:=fun c=>by rw[uX b l c t 0 _ Qd F ht (fun i Y=>by simp[h6,eY];split<;>rfl),AL];omega
 have U:(putW l 0 t (List.replicate b.length 0)).length=b.length:=by rw[sY];simp
 have K:∀w∈putW l 0 t (List.replicate b.length 0),0<=w:=by refine I2 l t 0 _ (fun w r=>by rw[p9 r];exact iA _) (fun j B=>?_);simp only[bL,y0,z1,not_exists,not_and]at I;have:=I j B;rw[show 0+1+j=j+1 by omega];omega
 have X:∀i w,(putW l 0 t (List.replicate b.length 0))[i]?=some w->w≠0->i∈t:=fun i w r S=>by
  by_cases Y:i∈t;·exact Y
  .rw[I0 l t 0 _ i Y,eY]at r;split at r;·cases r;exact absurd rfl S
   .cases r
 have N:∀k,k<q.length->k∉z->l.getD 0 0=q.getD k 0*n+B8 b l k 0 t:=fun k O E=>by have hm:=uW b (t:=t) q 0 k (q.getD k 0) (by rw[h6,k2 O];rfl) (by simpa using E);have J:=o _ hm;simp only[w0]at J;unfold e3 at J;cases l with|nil=>simp at m|cons x l=>
   simp only[dotL]at J;have Z:=IZ b (x::l) k (q.getD k 0) t 0 l (by simpa using m) fun j B=>by rw[show 0+1+j=j+1 by omega,hR]
   rw[Z]at J;have e:(1::(t.map (fun i=>-((b.getD i default).1.getD k 0))++[q.getD k 0])).getD (t.length+1) 0=q.getD k 0:=by rw[hR,h6,aO Qd];simp
   rw[e]at J;simp only[hE];omega
 have H:=I3 _ _ _ _ _ _ y;simp only[w0,f]at H;have hg:0<gcdL 0 (n::l.getD 0 0::putW l 0 t (List.replicate b.length 0)):=B6 n Qd Qa;obtain⟨-,s⟩:=X0 (n::l.getD 0 0::putW l 0 t (List.replicate b.length 0)) 0;simp only[<-f]at H N;generalize gcdL 0 (n::l.getD 0 0::putW l 0 t (List.replicate b.length 0))=g at*;generalize putW l 0 t (List.replicate b.length 0)=W at*;generalize l.getD 0 0=u at*;have D:(0:Int)<g:=Qa
 obtain rfl:_=p:=by simpa using h
 have el:=zB D (l:=W) fun x A=>s x (by simp[A]);have T:(g:Int)*(n / g)=n:=mX (s n Qd);have ev:(g:Int)*(u / g)=u:=mX (s u Qd);have G:(W.map (· / (g:Int))).length=b.length:=by simpa using U
 clear h s C I o m f y;generalize W.map (· / (g:Int))=V at*;generalize n / (g:Int)=d at*;generalize u / (g:Int)=v at*;subst el T ev;refine⟨G,zY (a:=(g:Int)) (by simpa using L) Qa,?_,?_,?_,?_⟩;·intro w r;have:=K (g*w) (L'.2 ⟨w,r,rfl⟩);exact R3 (a:=(g:Int)) (by simpa using this) D
 .intro k O;have:=H k O;rw[FX]at this;exact R3 (a:=(g:Int)) Qn D
 .intro k O E;have:=N k O E;rw[FX]at this;exact zX (a:=(g:Int)) Qa Qn
 .intro i w r S;refine X i (g*w) (by rw[k3,r];rfl) (fun R=>?_);rcases Int.mul_eq_zero.1 R with R|R;·omega
  .exact S R
open Tryz
open Go.RowKit
def AM{a:List En} {b:Nat} (h:RightE a b)(i c:Nat):(((exs a).getD i default).1.getD c 0).natAbs<=20:=by rw[h6 (l:=exs a)];cases d:(exs a)[i]? with|none=>simp[default,instInhabitedProd]|some x=>exact(h.exs_co x (n2 d)).get c
def GA{es:List En} {o:Nat} (h:RightE es o) {z t:List Nat}:∀(a:List Int)(k:Nat),ZN 400 a->gW (proofRows (exs es) z t k a)
 |[],_,_,row,f=>by cases f|w::a,k,hs,row,f=>by
  unfold proofRows at f;have m:=GA h (z:=z) (t:=t) a (k+1) fun x d=>hs x (by simp[d]);split at f;·exact m row f
  .rcases ZA1.1 f with rfl|f
   .intro x d;unfold e3 at d;rcases ZA1.1 d with rfl|d;·decide
    .rcases C1.1 d with d|d;·obtain⟨i,-,rfl⟩:=L'.1 d;rw[Int.natAbs_neg];exact w7 (AM h i k) Qc
     .rw[y2]at d;subst d;exact hs x Qd
   .exact m row f
def rZ(q:Option Prf)(a d:Nat)(e:Ending)(f:World):Prop:=match q with|none=>e=.returned (.tuple #[.agg #[(0:Int),(0:Int),.slice none 0 0],false])|some p=>∃A c,e=.returned (.tuple #[.agg #[p.den,p.lev,.slice A a c],true])/\f.ownsRow d 3 1 (.slice A a c) a (p.W.map (Value.int .i64))
def U4{P:Program} {f:Operand->Value} {o:Oper} {t:TypeId} {p q:Operand} {v r:Value} {x d:World} (i:o.op=.makeSlice t p q)(hp:f p=v)(hq:f q=v)(h:(Instr.makeSlice t v v).run P x=.ok r d):(execOp f o).run P x=.ok (.value r) d:=by unfold execOp;rw[i];simp only[hp,hq,aC,h,aA,aB]
def _root_.Qw{P:Prop}(h:P:=by intro a b;simp only[ZA1,ZBj,Zyj]at b;rcases b with rfl|rfl|rfl<;>(intro c d;kernel_rfl)):P:=h
def _root_.Qx{P:Prop}(h:P:=by intro a b;simp only[ZA1,ZBj,Zyj]at b;rcases b with rfl|rfl|rfl|rfl<;>(intro c d;kernel_rfl)):P:=h
def U5(pA eA tA wA:Option Addr)(zv:Value)(np pc B ec F tc wc:Nat)(es:List En)(C:List Int)(z t:List Nat)(w:World)(hR:RightE es np)(hE:h7 w eA es)(eK:es.length=B)(hT:At 1 Zc w tA (ZI t))(eY:t.length=F)(hW:At 1 Zc w wA C)(fD:C.length=np)(h5:np<=5)(fF:ZN 400 C)(hz:∀i∈z,i<np)(fJ:z.Nodup)(ht:∀i∈t,i<B)(cX:t.Nodup)(fL:z.length+t.length+1=np)(fK:zv.oneCell'=true):Calls prog 49 #[.agg (Z5 (.slice pA np pc) (.slice eA B ec) zv (.slice tA F tc) z t).toArray,.slice wA np wc] w fun e w'=>rZ (H3 (exs es) C z t) B w.heap.size e w'/\QB w w':=by
 obtain⟨BA,dB⟩:=Qu ((Z5 (.slice pA np pc) (.slice eA B ec) zv (.slice tA F tc) z t).toArray);have fO:=hR.n8;have fT:=i' fun W (hb:QB w W) k (hk:k<F)=>e' (hT.below hb) (k:=k) (by rw[Q3];omega);have fW:=i' fun W (hb:QB w W) k (hk:k<np)=>e' (hW.below hb) (k:=k) Qa;have fE:=i' fun W (hb:QB w W) i c (hi:i<B)(hc:c<np)=>(by
  have dJ:i<es.length:=Qa
  obtain⟨b,o,hA,bI,gA⟩:=(hE.below hb).1 i _ (k2 dJ);have Z:=D1 dJ;obtain⟨h1,h2,-⟩:=hR.co _ Z;obtain⟨b2,o2,hA2,eP,fZ⟩:=e' ((hE.below hb).2 _ Z) (k:=c) Qa;refine⟨es[i],b,o,b2,o2,hA,bI,eP,h1,?_,fZ,h2.get c,B7 (k2 dJ)⟩;have:=gA 1 _ rfl;rw[hA2]at this;exact this:∃x:En,∃b o b2 o2,eA=some ⟨b,o,none⟩/\b<W.heap.size/\b2<W.heap.size/\x.co.length=np/\W.cell? ⟨b,o+i*3+1,none⟩=some (.slice (some ⟨b2,o2,none⟩) x.co.length x.c)/\W.cell? ⟨b2,o2+c,none⟩=some (.int .i64 (x.co.getD c 0))/\(x.co.getD c 0).natAbs<=20/\(exs es).getD i default=(x.co,x.mo));have cF:=i' hR;have fN:=i' hE;have I:=i' eK;have U:=i' eY;have aD:=i' fD;have cA:=i' fF;have gP:=i' hz;have eX:=i' ht;have cZ:=i' fJ;have gK:=i' cX;have fM:=i' fL;have gW:=i' fK;have aE:=i' dB;have hU:F<=4:=Qa
 rw[dB];obtain⟨i0,hi,dU,dV,dW⟩:=x0 info3;obtain⟨i1,hj,gD,gE,cH⟩:=x0 info31;obtain⟨X,hX⟩:=Qu (exs es);have aS:=i' hX;rw[hX]at fE |-;clear hR hE eK eY fD fF hz ht fJ cX fL fK dB hT hW hX;go_enter func49,ntmps49;go_wp2;go_loopw [6,24] (fun v6 i wr=>∃(k:Nat)(xs:List IR),k<=np/\i=.int .i64 k/\Hid (RowsOwn wr (w.heap.size+2) v6 xs/\xs.map IR.l=proofRows X z t 0 (C.take k))/\wr.heap[w.heap.size]?=some (.cells BA 105)/\wr.heap[w.heap.size+1]?=some (.cells #[(0:Int),(0:Int),.slice none 0 0] 46)/\QB w wr)(fun _ i _=>np-(intOf i).toNat);case atStart=>exact⟨0,[],e6 _,rfl,⟨RowsOwn.nil _ _,by simp[proofRows]⟩,Qs,Qs,Qi⟩
 case round=>
  obtain⟨wo,gM⟩:∃wo,wo=wr:=⟨_,rfl⟩;subst gM;obtain⟨k,xs,hk,rfl,r,M0,M1,aU⟩:=hrel;have s0:=ZE M0;have s1:=ZE M1;have MB:wo.heap[w.heap.size]?=some (.cells (Z5 (.slice pA np pc) (.slice eA B ec) zv (.slice tA F tc) z t).toArray 105 (0,0)):=by rw[aE.out];exact M0
  have bB:=x5 MB (k:=1) rfl;have aN:=x5 MB (k:=3) rfl;by_cases bI:k<np
  .have eM:(k:Int)<(np:Int):=Qa
   have hL:(k:Int)<5:=Qa
   obtain⟨bw,ow,rfl,eJ,cw⟩:=fW.out wo aU k bI;obtain⟨u,K⟩:∃u,C[k]?=some u:=⟨_,k2 (by rw[aD.out];exact bI)⟩;have eZ:C.getD k 0=u:=by rw[h6,K];rfl
   rw[eZ]at cw;have cz:=x5 MB (uS (.slice pA np pc) (.slice eA B ec) zv (.slice tA F tc) z t k Qa);have cL:=i' (show proofRows X z t 0 (C.take (k+1))=proofRows X z t 0 (C.take k)++if k∈z then []else [e3 X t k u]by rw[w9,K];have:=IT X z t (C.take k) 0 u;rw[C3,Q9 (by rw[aD.out];omega),w0]at this;exact this);have gO:Hid (xs.length<=k):=i' (by have h1:=w6 List.length r.out.2;rw[R']at h1;have h2:=lX X (t:=t) cZ.out (C.take k) 0;rw[C3,Q9 (by rw[aD.out];omega)]at h2;omega);clear K eZ MB;by_cases bH:k∈z
   .have bU:decide (k∈z)=true:=by simpa using bH
    rw[bU]at cz;have cK:=i' (show RowsOwn wo (w.heap.size+2) u6 xs/\xs.map IR.l=proofRows X z t 0 (C.take (k+1))from⟨r.out.1,by rw[cL.out,r4 bH,N3];exact r.out.2⟩);clear bH r cL;go_wp2;go_roundw;case rel=>exact⟨k+1,xs,Qa,Qj,cK.out,M0,M1,aU⟩
    case measure=>exact Qv
   .have bU:decide (k∈z)=false:=by simpa using bH
    rw[bU]at cz;have cK:=i' (show proofRows X z t 0 (C.take (k+1))=xs.map IR.l++[e3 X t k u]from by rw[cL.out,Zc9 bH,r.out.2]);have aM:=i' r.out.1;clear bH r cL;go_wp2;go_loopw [9,37] (fun v9 j wi=>∃q:Nat,q<=F/\j=.int .i64 q/\wi.ownsRow wo.heap.size 3 1 v9 (q+1) ((kO X t k q).map (Value.int .i64))/\QB wo wi/\wo.heap.size<wi.heap.size) (fun _ j _=>F-(intOf j).toNat);case atStart=>
     refine⟨0,e6 _,rfl,?_,?_,?_⟩;·exact⟨rfl,.inr ⟨wo.heap.size,1,#[.int .i64 1],rfl,h' _,ZA _ _ rfl,h' _,Qc,rfl,rfl⟩⟩
     .exact ZB _ _
     .simp
    case round=>
     obtain⟨q,hq,rfl,aH,bN,hP⟩:=hrel;obtain⟨A9,c9,rfl⟩:=Z2 aH;have N0:=(bN.block _ s0).trans M0;have N1:=(bN.block _ s1).trans M1;have P:wr.heap[w.heap.size]?=some (.cells (Z5 (.slice pA np pc) (.slice eA B ec) zv (.slice tA F tc) z t).toArray 105 (0,0)):=by rw[aE.out];exact N0
     have dX:=x5 P (k:=1) rfl;have N:=via aU bN;have t0:=ZE N0;have m:=i' aH;clear aH P;by_cases aR:q<F
     .have gH:(q:Int)<(F:Int):=Qa
      obtain⟨bt,ot,rfl,fY,ct⟩:=fT.out wr N q aR;obtain⟨i,aL⟩:∃i,t[q]?=some i:=⟨_,k2 (by rw[U.out];exact aR)⟩;have bT:(ZI t).getD q 0=(i:Int):=by rw[h6,p5 aL];rfl
      rw[bT]at ct;have dK:=eX.out i (n2 aL);have E:=i' (UL (es:=X) (c:=k) aL);have gC:(i:Int)<(B:Int):=Qa
      obtain⟨x,be,oe,b2,o2,rfl,hH,aT,cN,c1,c2,gJ,hg⟩:=fE.out wr N i k dK bI;have hM:(k:Int)<(x.co.length:Int):=Qa
      rw[hg]at E;obtain⟨y,hy⟩:=Qu (x.co.getD k 0);dsimp only at E;rw[hy]at c2 gJ E;have hY:IntKind.i64.wrap (-y)=-y:=j0 _ Qa;generalize x.co.length=L at*;clear bT aL hy hg;go_wp2_with (at_builtin;refine C0 _ rfl _ _ 30 rfl wo.heap.size 3 i0 (.int .i64 0) 1 8 underlying30 hi dU dV dW rfl Qc _ _ _ rfl (m.out.alloc _) ⟨wr.heap.size,0,none⟩ 1 1 [.int .i64 (-y)] rfl rfl ?c1 ?c2 ?c3 ?c4 ?c5 ?_);case c1=>exact P2 _ [.int .i64 (-y)] _ Qd
      case c2=>intro u K;simp at K;subst K;rfl
      case c3=>unfold maxLen;omega
      case c4=>omega
      case c5=>simp;omega
      intro v' w3 aB bG _;have aK:QB wo w3:=ZW (via bN (ZB _ _)) bG fun b e=>(m.out.lt b e).1;have eW:wo.heap.size<w3.heap.size:=by have:=bG.size;simp at this;omega
      have H:=i' (show w3.ownsRow wo.heap.size 3 1 v' (q+1+1) ((kO X t k (q+1)).map (Value.int .i64))from by rw[E.out,b3];exact aB);clear aB bG m E;go_wp2;go_roundw;case rel=>exact⟨q+1,Qa,Qj,H.out,aK,eW⟩
      case measure=>exact Qv
     .obtain rfl:q=F:=Qa
      clear dX aR;go_wp2_with (at_builtin;refine iE _ rfl _ _ 30 rfl wo.heap.size 3 i0 (.int .i64 0) 1 8 underlying30 hi dU dV dW rfl Qc _ _ _ rfl (m.out.alloc _) ⟨wr.heap.size,0,none⟩ 1 1 [.int .i64 u] rfl rfl ?c1 ?c2 Qc ?c3 ?c4 ?c5 (wr.heap.size+1) ?c6 ?_);case c1=>exact P2 _ [.int .i64 u] _ Qd
      case c2=>intro u K;simp at K;subst K;rfl
      case c3=>unfold maxLen;omega
      case c4=>omega
      case c5=>simp;omega
      case c6=>simp
      intro g9 aI w3 aB bG eS eQ;have aK:QB wo w3:=ZW (via bN (ZB _ _)) bG fun b e=>(m.out.lt b e).1;have fU:=(aB.lt g9 rfl).1;have aJ:=i' (aM.out.below aK);have fI:=i' (show At 1 Zc w3 (some ⟨g9,0,none⟩) (e3 X t k u)from e7 (base:=wo.heap.size) (n:=q+1+1) (e:=3) (c:=aI) (by rw[<-UM,b3,U.out];exact aB));have cJ:=i' (show (e3 X t k u).length=q+1+1 from by simp[e3,U.out]);have eR:=i' (show some g9≠u6.ownBlock from fun e=>by have:=(aM.out.own.lt g9 e.symm).2;omega);have gU:wo.heap.size<w3.heap.size:=qA fU eQ;have bQ:=via aU aK;have P0:=(aK.block _ s0).trans M0;have P1:=(aK.block _ s1).trans M1;obtain⟨A6,c6,rfl⟩:=Z2 aM.out.own;clear aB bG eS m N0 N1;have gV:=gO.out;go_wp2_with (at_builtin;refine iE _ rfl _ _ 136 rfl (w.heap.size+2) 30 i1 (.slice none 0 0) 1 24 underlying136 hj gD gE cH rfl Qc _ _ _ rfl (aJ.out.own.alloc _) ⟨w3.heap.size,0,none⟩ 1 1 [.slice (some g9) (q+1+1) aI] rfl rfl ?c1 ?c2 Qc ?c3 ?c4 ?c5 (w3.heap.size+1) ?c6 ?_);case c1=>exact P2 _ [.slice (some g9) (q+1+1) aI] _ Qd
      case c2=>intro u K;simp at K;subst K;rfl
      case c3=>unfold maxLen;omega
      case c4=>omega
      case c5=>simp;omega
      case c6=>simp
      intro g gZ w4 H aQ cV gR;have eF:=i' (RowsOwn.push (x:=⟨some ⟨g9,0,none⟩,aI,e3 X t k u⟩) aJ.out (ZB w3 _) rfl (fI.out.below (ZB w3 _)) Qg Qk eR.out aQ (by show w4.ownsRow _ 30 1 _ _ (_++[Value.slice (some g9) (e3 X t k u).length aI]);rw[cJ.out];exact H) (by simpa using cV));have aC:QB w w4:=ZW (via bQ (ZB _ _)) aQ fun b e=>by have:=(aJ.out.own.lt b e).1;omega
      have Q0:=G1 aQ (Zz P0 _) (v8 aJ.out.own Qa);have Q1:=G1 aQ (Zz P1 _) (v8 aJ.out.own Qa);have O:=i' (show (xs++[(⟨some ⟨g9,0,none⟩,aI,e3 X t k u⟩:IR)]).map IR.l=proofRows X z t 0 (C.take (k+1))from by rw[cK.out,b3];rfl);clear H aQ cV aJ fI cK P0 P1;go_wp2;go_roundw;case rel=>exact⟨k+1,_,Qa,Qj,⟨eF.out,O.out⟩,Q0,Q1,aC⟩
      case measure=>exact Qv
  .obtain rfl:np=k:=Qa
   have aO:C.take np=C:=by rw[<-aD.out,x1]
   obtain⟨dP,O⟩:=r.out;rw[aO]at O;have cN:xs.length=F+1:=by
    have h1:=w6 List.length O;rw[R']at h1;have h2:=lX X (t:=t) cZ.out C 0;have h3:z.countP (inR 0 C.length)=z.length:=by rw[p8];intro x Z;have:=gP.out x Z;have:=aD.out;simp[inR];omega
    have:=fM.out;have:=aD.out;have:=U.out;omega
   obtain⟨A6,c6,rfl⟩:=Z2 dP.own;have hS:=i' (zF A6 xs c6 wo dP.rowsAt (fun x Z=>by have:=lC X (z:=z) (t:=t) C 0 x.l (by rw[<-O];exact L'.2 ⟨x,Z,rfl⟩);have:=U.out;omega) Qa Qa (by rw[O,<-aS.out];exact GA cF.out C 0 cA.out));rw[O]at hS;rw[cN]at hS |-;have bY:=i' O;have cY:=i' cN;obtain⟨sl,dS⟩:=Qu (D9 (proofRows X z t 0 C));have aZ:=i' dS;unfold kX at hS;rw[dS]at hS;clear dS dP r aO bI MB bB aN cN O;rcases sl with _|⟨l,den⟩
   .dsimp only at hS;have aG:=i' (show H3 X C z t=none by unfold H3;rw[aZ.out]);go_wp2_with (go_at_call 73;refine hS.out.mono ?_;rintro e w2 ⟨rfl,aT⟩;have N1:=Zx aT M1;have C1:=bk3 N1;have N:=via aU aT);refine x3 (v:=.tuple #[.agg #[(0:Int),(0:Int),.slice none 0 0],false]) ?_ rfl ⟨?_,Qi⟩;·simp[results,results49,go_sem,C1]
    .unfold rZ;rw[aG.out]
   .dsimp only at hS;have cJ:(proofRows X z t 0 C).length=F+1:=by rw[<-bY.out,R'];exact cY.out
    obtain⟨cI,dH,hJ,eO⟩:=pT aZ.out Qa (by rw[<-aS.out];exact GA cF.out C 0 cA.out);rw[cJ]at cI;rw[cI]at hS;have cT:=i' cI;have bX:=i' eO;clear eO cJ cI;go_wp2_with (go_at_call 73;refine hS.out.mono ?_;rintro e w2 ⟨⟨v,rfl,aH⟩,aT⟩;obtain⟨gX,gY,rfl⟩:=Z2 aH;have N0:=Zx aT M0;have N1:=Zx aT M1;have C1:=bk3 N1;have N:=via aU aT;have m:=i' aH;clear aH);have P:w2.heap[w.heap.size]?=some (.cells (Z5 (.slice pA np pc) (.slice eA B ec) zv (.slice tA F tc) z t).toArray 105 (0,0)):=by rw[aE.out];exact N0
    have bB:=x5 P (k:=1) rfl;have aN:=x5 P (k:=3) rfl;have cD:=x5 P (k:=0) rfl;obtain⟨lev,bV⟩:=Qu (l.getD 0 0);have cS:=e7 m.out;obtain⟨bJ,hA12,fX,bL,c0⟩:=W5 m.out (k:=0) (u:=.int .i64 lev) (by rw[<-bV];cases l with|nil=>have:=cT.out;simp at this|cons x l=>rfl);subst hA12;have aW:=i' bV;have dM:=i' cS;clear hS bV cS P;have gT:=ZE N1;apply UN w 8 10 11 B (.cells (h9 (List.replicate B 0)) 3) (.cells #[(0:Int),(0:Int),.slice none 0 0] 46) (fun h=>.cells #[den,lev,.slice (some h.b) B B] 46);case hm=>kernel_rfl
    case hB=>kernel_rfl
    case hB'=>intro g;kernel_rfl
    case hS|hN=>kernel_rfl
    case hne=>decide
    case hkd=>kernel_rfl
    case hcl=>intro L _ o S h;simp at S;subst S;simp[Region.binds]at h;exact⟨by simp[h],by simp[h]⟩
    case hw=>exact N
    case hq=>
     intro g u K bS bF fV;have d0:=Zx K N0;have P:u.heap[w.heap.size]?=some (.cells (Z5 (.slice pA np pc) (.slice eA B ec) zv (.slice tA F tc) z t).toArray 105 (0,0)):=by rw[aE.out];exact d0
     have e1:=x5 P (k:=1) rfl;have e2:=(K.cell (show (⟨bJ,0,none⟩:Addr).block<_ from bL)).trans c0;have z1:bJ<u.heap.size:=h8 bL K.size;have z2:w.heap.size<u.heap.size:=ZE d0;simp only[mixL,mkMAS,yieldsC,B4,S',Nat.reduceAdd,Nat.reduceBEq,w0,k4,l5,p0,p',l3,Zyl,Zyk,k7,Nat.reduceEqDiff];repeat (go_big_quiet_step (fail))
     exact Zyi rfl
    case hal1=>intro o S g x bF;simp only[nK,n9,B3]at S;subst S;refine U4 (v:=.int .i64 B) rfl Qb Qb ?_;exact W9 B (by have:=I.out;omega) x
    case hal2=>intro o S g x;simp only[nK,n9,B3]at S;subst S;kernel_rfl
    case hind=>exact Qw
    case hs=>intro o S g x Z hz;simp only[nK,n9,B3]at S;subst S;exact⟨_,iC rfl rfl rfl rfl Qb Qb Qb hz,(((OnlyB.refl _ _).set _ _).set _ _).set _ _,ZJ (ZJ (ZJ hz _ rfl) _ rfl) _ rfl⟩
    case hend=>
    intro g u dA dY aY K bQ E1 E2;obtain⟨R,hR⟩:=Qu ((g 8).b);obtain⟨Q,hQ⟩:=Qu ((g 10).b);rw[hR]at dA aY E1 E2;rw[hQ]at dY aY E2;have hI:Hid (ZO 3 u R (List.replicate B 0)):=i' E1;rw[hR,hQ];clear hR hQ C1 bB aN cD c0 E1 bQ M0 M1 g aU bY cY;have P0:=Zx K N0;have P:u.heap[w.heap.size]?=some (.cells (Z5 (.slice pA np pc) (.slice eA B ec) zv (.slice tA F tc) z t).toArray 105 (0,0)):=by rw[aE.out];exact P0
    have aN:=x5 P (k:=3) rfl;clear P P0;go_wp2;go_loopw [86] (fun i wr=>∃q:Nat,q<=F/\i=.int .i64 q/\Hid (ZO 3 wr R (putW l 0 (t.take q) (List.replicate B 0)))/\wr.heap[Q]?=some (.cells #[den,lev,.slice (some R) B B] 46)/\Hid (∀j,j<q->¬l.getD (j+1) 0<0)/\QB w2 wr) (fun i _=>F-(intOf i).toNat);case atStart=>exact⟨0,e6 _,rfl,hI.out,E2,fun j hj=>Qa,K⟩
    case round=>
     clear hI E2 aN;obtain⟨q,hq,rfl,G,aA,dO,J⟩:=hrel;have P0:=Zx J N0;have P1:=Zx J N1;have P:wr.heap[w.heap.size]?=some (.cells (Z5 (.slice pA np pc) (.slice eA B ec) zv (.slice tA F tc) z t).toArray 105 (0,0)):=by rw[aE.out];exact P0
     have aN:=x5 P (k:=3) rfl;have D:=bk3 aA;have aC:=via N J;clear P;by_cases aR:q<F
     .have gH:(q:Int)<(F:Int):=Qa
      obtain⟨bt,ot,rfl,fY,ct⟩:=fT.out wr aC q aR;obtain⟨i,aL⟩:∃i,t[q]?=some i:=⟨_,k2 (by rw[U.out];exact aR)⟩;have bT:(ZI t).getD q 0=(i:Int):=by rw[h6,p5 aL];rfl
      rw[bT]at ct;have dK:=eX.out i (n2 aL);have gC:(i:Int)<(B:Int):=Qa
      have E:=i' (S4 l (W:=List.replicate B 0) aL);obtain⟨b9,o9,e9,-,cl⟩:=e' (dM.out.below J) (k:=q+1) (by rw[cT.out];omega);cases e9;rw[w0]at cl;obtain⟨x,Z⟩:=Qu (l.getD (q+1) 0);rw[Z]at cl E;have fG:=i' Z;obtain⟨V,hV⟩:=Qu (putW l 0 (t.take q) (List.replicate B 0));rw[hV]at G E;have eG:V.length=B:=by rw[<-hV,sY,uR]
      have ci:=G.out.loadD (k:=i) Qa;have fi:=G.out.frozen i;have eV:=G.out.size;have eT:bJ<wr.heap.size:=h8 bL J.size;have eU:=ZE aA;have cM:IntKind.i64.wrap ((q:Int)+1)=(q:Int)+1:=j0 _ Qa;have eH:=i' eG;clear bT aL Z hV eG;go_wp2;refine B9 w 9 Qb Qb Qi ?_;intro bS bF;simp only[m',sT,e5,sA];repeat (go_big_quiet_step (fail))
      refine Zyi ?_;intro wb d aX dR;clear bS bF;have bE:=i' (G.out.below d);have dD:=Zx d aA;have R1:=Zx d P1;have C1:=bk3 R1;have bO:=via J d;have hC:=bE.out.loadD (k:=i) (by rw[eH.out];exact dK);have hG:=bE.out.frozen i;have hD:=(d.cell (show (⟨bJ,q+1,none⟩:Addr).block<_ from eT)).trans cl;have gS:bJ≠R:=Qa
      have hO:w.heap.size+1≠R:=Qa
      have fQ:=i' (show ZO 3 (wb.setCell ⟨R,i,none⟩ (.int .i64 x)) R (putW l 0 (t.take (q+1)) (List.replicate B 0))from by have:=bE.out.store i x;rwa [<-E.out]at this);clear G aA P0 P1 D ci fi cl aN ct bE;by_cases fH:x<0
      .have aG:=i' (show H3 X C z t=none by unfold H3;simp only[aZ.out];rw[r4 (S5 (k:=q) (by rw[U.out];exact aR) (by rw[fG.out];exact fH))]);go_wp2;refine x3 (v:=.tuple #[.agg #[(0:Int),(0:Int),.slice none 0 0],false]) ?_ rfl ⟨?_,?_⟩;·refine b4 (p:=4) (u:=5) (ad:=⟨w.heap.size+1,0,none⟩) (v:=.agg #[(0:Int),(0:Int),.slice none 0 0]) rfl Qe (y5 (T:=46) (cs:=[.int .i64 0,.int .i64 0,.slice none 0 0]) Qb Qb ?_);exact ZJ (ZJ (ZJ (ZC R1 (by first|omega|(dsimp only;omega)) _) _ rfl) _ rfl) _ rfl
       .unfold rZ;rw[aG.out]
       .first|go_grown|(repeat' (first|exact aX|refine lB ?_ Qg _))
      .go_wp2;go_roundw;case rel=>exact⟨q+1,Qa,Qj,fQ.out,ZC dD (by first|omega|(dsimp only;omega)) _,(fun j hj=>by
        by_cases gG:j=q;·rw[gG,fG.out];exact fH
        .have:=dO.out j Qa;omega),bO.setCell (by first|omega|(dsimp only;omega)) _⟩
       case measure=>exact Qv
     .obtain rfl:F=q:=Qa
      have aO:t.take F=t:=by rw[<-U.out,x1]
      rw[aO]at G;obtain⟨W,hW⟩:=Qu (putW l 0 t (List.replicate B 0));rw[hW]at G;have aF:=i' (show W.length=B by rw[<-hW,sY,uR]);have cG:=i' (show ZN 1228800000000000 W by rw[<-hW];exact H8 bX.out t 0 _ fun x Z=>by rw[p9 Z];decide);have bZ:=i' (show H3 X C z t=if F2 X den lev W 0 C=true then some {den:=den / (gcdL 0 (den::lev::W):Int),lev:=lev / (gcdL 0 (den::lev::W):Int),W:=W.map (· / (gcdL 0 (den::lev::W):Int))} else none by
       have fS:X.length=B:=by rw[<-aS.out,A5];exact I.out
       unfold H3;simp only[aZ.out];rw[Zc9 (by rw[S6 (by rw[U.out];exact dO.out)];decide),fS,hW,aW.out]);clear aR aO hW dO aN D P0 P1;go_wp2;go_loopw [110] (fun i wr=>∃k:Nat,k<=np/\i=.int .i64 k/\Hid (ZO 3 wr R W)/\wr.heap[Q]?=some (.cells #[den,lev,.slice (some R) B B] 46)/\Hid (∀j,j<k->¬(C.getD j 0*den+putsL X W j<lev))/\QB w2 wr)(fun i _=>np-(intOf i).toNat);case atStart=>exact⟨0,e6 _,rfl,G.out,aA,fun j hj=>Qa,J⟩
      case round=>
       clear G aA J aC;obtain⟨k,hk,rfl,G,aA,dN,J⟩:=hrel;have P0:=Zx J N0;have P1:=Zx J N1;have P:wr.heap[w.heap.size]?=some (.cells (Z5 (.slice pA np pc) (.slice eA B ec) zv (.slice tA F tc) z t).toArray 105 (0,0)):=by rw[aE.out];exact P0
       have cD:=x5 P (k:=0) rfl;have bB:=x5 P (k:=1) rfl;have D:=bk3 aA;have aC:=via N J;have eV:=G.out.size;have eU:=ZE aA;have dQ:=ZE P0;clear P;by_cases aV:k<np
       .have eM:(k:Int)<(np:Int):=Qa
        obtain⟨bw,ow,rfl,eJ,cw⟩:=fW.out wr aC k aV;obtain⟨u,K⟩:=Qu (C.getD k 0);rw[K]at cw;obtain⟨T,hT⟩:=Qu (putsL X W k);have eC:=i' fun(x:Grew wr)=>(by have:=zE pA eA (some ⟨R,0,none⟩) np pc ec B np es W den lev k x.val cF.out (fN.out.below (via aC x.ok)) (G.out.below x.ok).at' (by rw[aF.out,I.out]) aV (fun y hy=>w7 (cG.out y hy) Qc);rw[I.out,aF.out,aS.out,hT]at this;exact this:Calls prog 59 #[.agg #[(.slice pA np pc),(.slice eA B ec)],.agg #[den,lev,.slice (some R) B B],k] x.val fun e w'=>e=.returned T/\Below x.val.heap.size x.val w');have fR:T.natAbs<=8*(1228800000000000*20):=by have:=mZ (X:=20) (Y:=1228800000000000) k X W X.length (by rw[<-aS.out];exact cF.out.exs_co) cG.out;rw[x1,<-aS.out,A5,g' (by rw[aF.out,I.out];exact h' _),aS.out,hT]at this;refine w7 this (M3 _ fO)
        have fA:u.natAbs<=400:=by rw[<-K];exact cA.out.get k
        have fB:=e4 fA dH;obtain⟨y,hy⟩:=Qu (u*den);rw[hy]at fB;obtain⟨s,hs⟩:=Qu (y+T);have cM:IntKind.i64.wrap (u*den)=y:=by rw[hy];exact j0 _ Qa
        have fC:IntKind.i64.wrap (y+T)=s:=by rw[hs];exact j0 _ Qa
        have cW:=i' (show C.getD k 0*den+putsL X W k=s by rw[K,hT,hy,hs]);clear K hT fR fA fB hy hs;go_wp2;refine B9 w 11 Qb Qb Qi ?_;intro bS bF;simp only[m',sT,e5,sA];repeat (go_big_quiet_step ((go_at_call 59;with_reducible exact Grew.call (eC.out _))))
        refine Zyi ?_;intro wb d aX dR;clear bS bF;have bE:=i' (G.out.below d);have dD:=Zx d aA;have R1:=Zx d P1;have C1:=bk3 R1;have bO:=via J d;clear G aA P0 P1 D cD bB cw eC;by_cases dQ:s<lev
        .have aG:=i' (show H3 X C z t=none by rw[bZ.out,TA (j:=k) (by rw[aD.out];exact aV) (by rw[cW.out];exact dQ)];rfl);go_wp2;refine x3 (v:=.tuple #[.agg #[(0:Int),(0:Int),.slice none 0 0],false]) ?_ rfl ⟨?_,?_⟩;·refine b4 (p:=4) (u:=5) (ad:=⟨w.heap.size+1,0,none⟩) (v:=.agg #[(0:Int),(0:Int),.slice none 0 0]) rfl Qe (y5 (T:=46) (cs:=[.int .i64 0,.int .i64 0,.slice none 0 0]) Qb Qb ?_);exact ZJ (ZJ (ZJ (R1) _ rfl) _ rfl) _ rfl
         .unfold rZ;rw[aG.out]
         .first|go_grown|(repeat' (first|exact aX|refine lB ?_ Qg _))
        .go_wp2;go_roundw;case rel=>exact⟨k+1,Qa,Qj,bE.out,dD,(fun j hj=>by
          by_cases gF:j=k;·rw[gF,cW.out];exact dQ
          .exact Int.not_lt.2 (dN.out j Qa)),bO⟩
         case measure=>exact Qv
       .obtain rfl:np=k:=Qa
        have bA:=bZ.out;rw[TB (fun j hj=>dN.out j (by rw[aD.out]at hj;exact hj)),r4 rfl]at bA;have fP:0<gcdL 0 (den::lev::W):=B6 den Qd Qa;have bR:=(X0 (den::lev::W) 0).2;have cE:=i' fun A c w' hA=>pP A (den::lev::W) c w' hA (by simp only[r3];rw[aF.out];have:=I.out;omega) (by
         intro x Z;rcases ZA1.1 Z with rfl|Z;·exact w7 dH Qc
         .rcases ZA1.1 Z with rfl|Z;·rw[<-aW.out];exact w7 (bX.out.get 0) Qc
          .exact w7 (cG.out x Z) Qc);have cU:(den::lev::W).length=2+B:=by simp only[r3];rw[aF.out];omega
        rw[cU]at cE;obtain⟨M,eL⟩:∃M:Int,((gcdL 0 (den::lev::W):Nat):Int)=M:=⟨_,rfl⟩;rw[eL]at bA bR cE;have dI:0<M:=Qa
        have gB:¬M=0:=Qa
        have hK:(M==0)=false:=by simpa using gB
        have cM:IntKind.i64.wrap (den.tdiv M)=den / M:=kN dI (bR den Qd) dH Qc;have fC:IntKind.i64.wrap (lev.tdiv M)=lev / M:=kN dI (bR lev Qd) (by rw[<-aW.out];exact bX.out.get 0) Qc;have gL:=i' fun j (hj:j<B)=>(kN dI (bR (W.getD j 0) (by
         have cH:j<W.length:=by rw[aF.out];exact hj
         rw[h6,k2 cH];exact N2 _ (N2 _ (D1 cH)))) (cG.out.get j) Qc:IntKind.i64.wrap ((W.getD j 0).tdiv M)=W.getD j 0 / M);have cC:=i' bA;have bW:=i' fun(x:World)=>(⟨rfl,.inr ⟨x.heap.size,2,#[.int .i64 den,.int .i64 lev],rfl,h' _,ZA _ _ rfl,h' _,Qc,rfl,rfl⟩⟩:(x.alloc (.cells #[den,lev] 3)).ownsRow x.heap.size 3 1 (.slice (some x.heap.size) 2 2) 2 [.int .i64 den,.int .i64 lev]);clear bA bR fP eL cU bZ dN aV cD bB;go_wp2_with (at_builtin;refine C0 _ rfl _ _ 30 rfl wr.heap.size 3 i0 (.int .i64 0) 1 8 underlying30 hi dU dV dW rfl Qc _ _ _ rfl (bW.out wr) ⟨R,0,none⟩ B B (W.map (Value.int .i64)) rfl ?c0 ?c1 ?c2 ?c3 ?c4 ?c5 ?_);case c0=>rw[R',aF.out,w8]
        case c1=>
         intro j u K;rw[k3]at K;obtain⟨y,hy,rfl⟩:=C2.1 K;have:=(G.out.alloc (.cells #[den,lev] 3)).load hy;have e:Addr.add ⟨R,0,none⟩ j=⟨R,j,none⟩:=by unfold Addr.add;split<;>simp_all
         rw[e];exact this
        case c2=>intro u K;obtain⟨y,-,rfl⟩:=L'.1 K;rfl
        case c3=>have:=I.out;unfold maxLen;omega
        case c4=>have:=I.out;omega
        case c5=>simp
        intro v4 w4 H aQ _;obtain⟨A4,c4,rfl⟩:=Z2 H;have aP:QB wr w4:=ZW (ZB wr _) aQ fun b e=>by cases e;exact h' _
        have cO:=i' (show At 1 Zc w4 A4 (den::lev::W)from e7 (l:=den::lev::W) H);have dZ:=i' (G.out.below aP);have eD:=Zx aP aA;have R4:=Zx aP P1;have cP:=via J aP;clear H aQ aP G aA P0 P1 D J aC;go_wp2_with (go_at_call 61;refine(cE.out _ _ _ cO.out).mono ?_;rintro e w5 ⟨rfl,bM⟩);have dC:=i' (dZ.out.below bM);have eE:=Zx bM eD;have R5:=Zx bM R4;have cQ:=via cP bM;clear dZ eD R4 cP bM cO cE bW;apply UO w2 1 5 9 11 Q (.int .i64 den) (.int .i64 lev) (fun a b=>.cells #[.int .i64 (if a then den / M else den),.int .i64 (if b then lev / M else lev),.slice (some R) B B] 46);case hm=>kernel_rfl
        case hB=>kernel_rfl
        case hB'=>intro g;kernel_rfl
        case hS|hN=>kernel_rfl
        case hne=>decide
        case hkd=>kernel_rfl
        case hw=>exact cQ
        case hb=>exact dY
        case hb0=>exact eE
        case hcl=>
         intro L hc;refine⟨⟨fun h=>?_,fun h=>?_⟩,fun o S h=>?_,fun o S h=>?_⟩;·have h2:=hc 9 _ rfl h;simp[Region.binds]at h2;exact⟨by simp[h2],by simp[h2]⟩
         .have h2:=hc 11 _ rfl h;simp[Region.binds]at h2;exact⟨by simp[h2],by simp[h2]⟩
         .simp at S;subst S;simp[Region.binds]at h;exact⟨by simp[h],by simp[h]⟩
         .simp at S;subst S;simp[Region.binds]at h;exact⟨by simp[h],by simp[h]⟩
        case hq=>
         intro g u K bS bF fV;dsimp only[mixL,yieldsC,B4,S'];simp only[mixL,yieldsC,B4,S',Nat.reduceAdd,Nat.reduceBEq,w0,k4,l5,p0,p',l3,Zyl,Zyk,k7,Nat.reduceEqDiff];repeat (go_big_quiet_step (fail))
         exact Zyi rfl
        case hp=>intro o S g x Z;simp only[nK,n9,B3]at S;subst S;have D:=bk3 Z;exact IU (b:=Q) (off:=0) rfl Qb Qb (by simpa using D.1)
        case hqq=>intro o S g x Z;simp only[nK,n9,B3]at S;subst S;have D:=bk3 Z;exact IU (b:=Q) (off:=1) rfl Qb Qb (by simpa using D.2.1)
        case hind=>exact Qx
        case hs1=>intro o S f g x Z;simp only[nK,n9,B3]at S;subst S;have D:=bk3 Z;exact⟨_,nH (n:=den / M) rfl Qb Qb Qb D.1 (by simp[D]),(OnlyB.refl _ _).set _ _,ZJ Z _ rfl⟩
        case hs2=>intro o S f g x Z;simp only[nK,n9,B3]at S;subst S;have D:=bk3 Z;exact⟨_,nH (n:=lev / M) rfl Qb Qb Qb D.2.1 (by simp[D]),(OnlyB.refl _ _).set _ _,ZJ Z _ rfl⟩
        intro g x hg cR bK;simp only[Zyl]at bK;have eB:=i' (show ZO 3 x R W from(hg.block R dC.out.size (by simpa using aY)).trans dC.out);have R6:=G1 hg R5 (by have:=ZE N1;simp;omega);have dG:=cM;obtain⟨d2,dG⟩:=Qu (den / M);obtain⟨l2,eN⟩:=Qu (lev / M);rw[dG,eN]at bK cC;clear hg dC eE R5 cQ cM fC dG eN g;have D:=bk3 bK;go_wp2;go_loopw [151] (fun i wr=>∃k:Nat,k<=B/\i=.int .i64 k/\Hid (ZO 3 wr R ((W.take k).map (· / M)++W.drop k))/\wr.heap[Q]?=some (.cells #[d2,l2,.slice (some R) B B] 46)/\QB w2 wr)(fun i _=>B-(intOf i).toNat);case atStart=>exact⟨0,e6 _,rfl,i' (by simpa using eB.out),bK,cR⟩
        case round=>
         clear eB bK cR D R6;obtain⟨k,hk,rfl,bC,dE,bP⟩:=hrel;have D:=bk3 dE;have eV:=bC.out.size;have eU:=ZE dE;by_cases aV:k<B
         .have eM:(k:Int)<(B:Int):=Qa
          have dL:k<W.length:=by rw[aF.out];exact aV
          have ci:=bC.out.load (zI (g:=M) dL);have fi:=bC.out.frozen k;have bD:=i' (bC.out.store k (W.getD k 0 / M));rw[zH dL]at bD;have gN:=gL.out k aV;have gQ:B<=8:=by have:=I.out;omega
          obtain⟨y,hy⟩:=Qu (W.getD k 0);rw[hy]at ci gN bD;clear hy dL;go_wp2;go_roundw;case rel=>
           refine⟨k+1,Qa,Qj,bD.out,ZC dE ?_ _,bP.setCell ?_ _⟩;·exact fun e=>aY e.symm
           .exact dA
          case measure=>exact Qv
         .obtain rfl:B=k:=Qa
          have P1:=Zx bP N1;have bD:=bC.out;rw[show W.take B=W by rw[<-aF.out,x1],show W.drop B=[]by rw[<-aF.out,List.drop_length],N3]at bD;have eI:=via N bP;have C1:=bk3 P1;have dF:R≠w.heap.size+1:=by have:=ZE N1;omega
          clear bC;go_wp2;refine x3 (v:=.tuple #[.agg #[d2,l2,.slice (some R) B B],true]) ?_ rfl ⟨?_,?_⟩;·refine b4 (p:=4) (u:=5) (ad:=⟨w.heap.size+1,0,none⟩) (v:=.agg #[d2,l2,.slice (some R) B B]) rfl Qe (y5 (T:=46) (cs:=[.int .i64 d2,.int .i64 l2,.slice (some R) B B]) Qb Qb ?_);exact ZJ (ZJ (ZJ P1 _ rfl) _ rfl) _ rfl
          .unfold rZ;rw[cC.out];exact⟨_,_,rfl,TC (((bD.other _ _ (fun e=>dF e.symm)).other _ _ (fun e=>dF e.symm)).other _ _ (fun e=>dF e.symm)) (by simp[aF.out]) (by have:=I.out;omega) (w7 N.size dA)⟩
          .exact((eI.setCell Qg _).setCell Qg _).setCell Qg _
variable {w:World} {base n c g:Nat} {e:TypeId} {xs:List Value}
def U6(h:w.ownsRow base e 1 (.slice (some g) n c) n xs) {k:Nat} (G:k<n)(v:Value):(w.setCell ⟨g,k,none⟩ v).ownsRow base e 1 (.slice (some g) n c) n (xs.set k v):=by
 obtain⟨s,i⟩:=h;refine⟨by simpa using s,?_⟩;rcases i with⟨i,-⟩|⟨E,r,f,t,u,y,z,D,m,o⟩;·cases i
 .cases t;refine .inr ⟨g,c,f.setIfInBounds k v,rfl,u,?_,z,D,by simpa using m,?_⟩;·simp only[World.setCell];rw[iT,r4 rfl,y];simp
  .rw[w8]at o |-;rw[<-o];apply aL;intro j;rw[dS,mG,bD,bC,dS,C3,AA,m];by_cases p:j<n
   .simp only[p,Zyl];by_cases d:k=j;·subst d;rw[r4 rfl,r4 rfl,r4 Qa,r4 Qa]
    .rw[Zc9 d,Zc9 d,mG]
   .simp only[p,Zyk];rw[Zc9 Qa]
def U'(h:w.ownsRow base e 1 (.slice (some g) n c) n xs)(k:Nat):w.frozen? ⟨g,k,none⟩=false:=by
 rcases h.2 with⟨i,-⟩|⟨p,d,f,m,r,o,s,t,u,y⟩;·cases i
 .cases m;unfold World.frozen?;rw[o];simp
def VA(X:ByteArray)(p s:Option Addr)(f l:List Int)(t H j:Nat)(o a:Int)(w:World)(J:At 1 Zc w p f)(L:At 1 Zc w s l)(i:f.length=j)(Q:l.length=j)(Y:j<=8)(S:ZN 20 f)(D:o.natAbs<=20)(q:ZN 10000000000000000 l)(m:a.natAbs<=10000000000000000):Calls prog 74 #[.agg #[.string X,.slice p j t,o],.agg #[a,.slice s j H]] w (Qt w (decide (dotL f l<=o*a))):=by
 have K:=i' fun W (N:QB w W)=>(by have:=a6 p s f l t H W (J.below N) (L.below N) Qa Qa 20 10000000000000000 Qc S q;rw[i,Q]at this;exact this:Calls prog 27 #[.slice p j t,.slice s j H] W fun e I=>e=.returned (dotL f l)/\W=I);have R:=e4 D m;obtain⟨y,r⟩:=Qu (o*a);rw[r]at R;have V:IntKind.i64.wrap (o*a)=y:=by rw[r];exact j0 _ Qa
 rw[r];obtain⟨d,O⟩:=Qu (dotL f l);rw[O]at K |-;clear r O R J L i Q S q;go_enter func74,ntmps74;go_wp2;obtain⟨U,Z⟩:∃U,U=w:=⟨_,rfl⟩;refine c8 w Qb Qb Qi ?_;intro z h;repeat (go_big_quiet_step ((go_at_call 27;with_reducible exact Zd (K.out _ (h.out _)))))
 refine Zyi ?_;intro B u G E;clear z h;go_wp2;go_ret;exact⟨rfl,by assumption⟩
variable {n k np:Nat} {es:List En} {l:List Int} {den:Int}
def AN(h:k<n):(List.replicate k (1:Int)++List.replicate (n-k) 0).set k 1=List.replicate (k+1) 1++List.replicate (n-(k+1)) 0:=by obtain⟨r,d⟩:∃r,n-k=r+1:=⟨n-k-1,Qa⟩;rw[d,show n-(k+1)=r by omega,hZ _ _ Qd,uR,jE,l6,List.replicate_succ' (n:=k)];simp
def I4{i:Nat} (h:i<n):(List.replicate n (0:Int)).set i 1=hY n i:=by
 apply aL;intro j;rw[bC];unfold hY;rw[k3];by_cases f:j<n
 .rw[bH f];by_cases d:i=j;·subst d;simp[h]
  .have:¬j=i:=fun e=>d e.symm;simp[d,this,eY,f]
 .rw[bE Qk];have:i≠j:=Qa
  simp[this,f]
def uY(h:RightE es np)(z t:List Nat):gW (c9 np (exs es) z t):=by
 intro s m;simp only[c9,ZA1,C1,L']at m;rcases m with rfl|⟨i,-,rfl⟩|⟨i,-,rfl⟩;·intro x d;rw[p9 d];decide
 .intro x d;obtain⟨j,-,rfl⟩:=L'.1 d;split<;>decide
 .intro x d;have r:=AM h i;have f:((exs es).getD i default).2.natAbs<=20:=by rw[h6];cases p:(exs es)[i]? with|none=>simp[default,instInhabitedProd]|some x=>exact h.exs_mo x (n2 p)
  rcases C1.1 d with d|d;·obtain⟨c,o⟩:=r1.1 d;have:=r c;rw[h6,o]at this;exact w7 this Qc
  .rw[y2]at d;subst d;exact w7 f Qc
def AO(np:Nat)(es:List Ex)(z t:List Nat):(c9 np es z t).length=z.length+t.length+1:=by simp[c9]
def VB(h:RightE es np) {z t:List Nat} (o:∀i∈t,i<es.length):∀a∈c9 np (exs es) z t,a.length=np+1:=by
 intro a f;simp only[c9,ZA1,C1,L']at f;rcases f with rfl|⟨i,-,rfl⟩|⟨i,m,rfl⟩;·simp
 .simp[hY]
 .have d:=o i m;rw[M1,B7 (k2 d),(h.co _ (D1 d)).1];rfl
def VC(d:k<l.length)(h:l.getD k 0<0):l.any (·<0)=true:=by rw[bL];refine⟨l[k],D1 d,?_⟩;rw[h6,k2 d]at h;simpa using h
def VD(h:∀k,k<l.length->¬l.getD k 0<0):l.any (·<0)=false:=by rw[bN];intro x f;obtain⟨k,d,rfl⟩:=gZ f;have:=h k d;rw[h6,k2 d]at this;simpa using this
def VE{es:List Ex} (d:k<es.length)(h:¬dotL (es.getD k default).1 l<=(es.getD k default).2*den):es.any (fun x=>!decide (dotL x.1 l<=x.2*den))=true:=by rw[bL];refine⟨es[k],D1 d,?_⟩;rw[h6,k2 d]at h;simpa using h
def VF{es:List Ex} (h:∀k,k<es.length->dotL (es.getD k default).1 l<=(es.getD k default).2*den):es.any (fun x=>!decide (dotL x.1 l<=x.2*den))=false:=by rw[bN];intro x f;obtain⟨k,d,rfl⟩:=gZ f;have:=h k d;rw[h6,k2 d]at this;simpa using this
def RowsOwn.one{W:World} {base B:Nat} (h:ZO 3 W B l)(j:base<=B)(i:l.length=n):RowsOwn (W.alloc (.cells #[.slice (some B) n n] 30)) base (.slice (some W.heap.size) 1 1) [⟨some ⟨B,0,none⟩,n,l⟩]:=by
 have m:=h.size;refine⟨⟨rfl,.inr ⟨W.heap.size,1,_,rfl,Qa,ZA _ _ rfl,h' _,Qc,rfl,?_⟩⟩,fun x d=>?_⟩;·simp[i]
 .rw[y2]at d;subst d;refine⟨(h.alloc _).at',fun g f=>?_⟩;cases f;refine⟨j,Qk,fun e=>?_⟩;cases e;exact M7 _ m
def r6(q:Option (List Int×Int))(np f:Nat)(e:Ending)(a:World):Prop:=match q with|none=>e=.returned (.tuple #[.agg #[(0:Int),.slice none 0 0],false])|some (m,d)=>∃A c,e=.returned (.tuple #[.agg #[d,.slice A np c],true])/\a.ownsRow f 3 1 (.slice A np c) np (m.map (Value.int .i64))
def _root_.Qy{P:Prop}(h:P:=by intro a b;simp only[ZA1,ZBj,Zyj]at b;rcases b with rfl|rfl|rfl|rfl|rfl|rfl<;>(intro c d;kernel_rfl)):P:=h
def VG(pA eA zA tA:Option Addr)(np pc M ec zn zc tn tc:Nat)(es:List En)(z t:List Nat)(w:World)(hR:RightE es np)(hE:h7 w eA es)(eG:es.length=M)(hZ:At 1 Zc w zA (ZI z))(eU:z.length=zn)(hT:At 1 Zc w tA (ZI t))(eR:t.length=tn)(h5:np<=5)(hz:∀i∈z,i<np)(ht:∀i∈t,i<M)(eV:z.length+t.length+1=np):Calls prog 50 #[.agg (Z5 (.slice pA np pc) (.slice eA M ec) (.slice zA zn zc) (.slice tA tn tc) z t).toArray] w fun e w'=>r6 (A' np (exs es) z t) np w.heap.size e w'/\QB w w':=by
 obtain⟨BA,bO⟩:=Qu ((Z5 (.slice pA np pc) (.slice eA M ec) (.slice zA zn zc) (.slice tA tn tc) z t).toArray);have fX:=hR.n8;have fZ:=i' fun W (hb:QB w W) k (hk:k<zn)=>e' (hZ.below hb) (k:=k) (by rw[Q3];omega);have fT:=i' fun W (hb:QB w W) k (hk:k<tn)=>e' (hT.below hb) (k:=k) (by rw[Q3];omega);have fE:=i' fun W (hb:QB w W) i (hi:i<M)=>(by
  have bV:i<es.length:=Qa
  obtain⟨b,o,hA,fC,dA⟩:=(hE.below hb).1 i _ (k2 bV);have hx:=D1 bV;obtain⟨R,h2,h3⟩:=hR.co _ hx;refine⟨es[i],b,o,hA,fC,R,h2,h3,?_,?_,dA 2 _ rfl,(hE.below hb).2 _ hx,B7 (k2 bV),k2 bV⟩;·simpa using dA 0 _ rfl
  .have:=dA 1 _ rfl;rw[R]at this;exact this:∃x:En,∃b o,eA=some ⟨b,o,none⟩/\b<W.heap.size/\x.co.length=np/\ZN 20 x.co/\x.mo.natAbs<=20/\W.cell? ⟨b,o+i*3,none⟩=some (.string x.nm)/\W.cell? ⟨b,o+i*3+1,none⟩=some (.slice x.A np x.c)/\W.cell? ⟨b,o+i*3+2,none⟩=some (.int .i64 x.mo)/\At 1 Zc W x.A x.co/\(exs es).getD i default=(x.co,x.mo)/\es[i]?=some x);have dE:=W9 (np+1) Qa;obtain⟨m,bR⟩:=Qu (np+1);rw[bR]at dE;have dI:IntKind.i64.wrap ((np:Int)+1)=(m:Int):=by rw[<-bR];exact j0 _ Qa
 have gA:m<=6:=Qa
 have cE:=i' bR;have cW:=i' hR;have aZ:=i' eG;have aN:=i' eU;have bH:=i' eR;have fK:=i' hz;have eQ:=i' ht;have aO:=i' eV;have dM:=i' bO;have gO:zn<=4:=Qa
 have fP:M<=8:=Qa
 have gN:tn<=4:=Qa
 rw[bO];obtain⟨i0,hi,dJ,dK,dL⟩:=x0 info3;obtain⟨i1,hj,eJ,eK,bB⟩:=x0 info31;obtain⟨X,hX⟩:=Qu (exs es);have aU:=i' hX;rw[hX]at fE |-;have fY:0<m:=Qa
 have dZ:BA[0]?=some (.slice pA np pc):=by rw[<-bO];rfl
 clear hR hE eG eU eR hz ht eV bO hZ hT hX bR;have c0:=i' fun(W:World)(h:W.heap[w.heap.size]?=some (.cells BA 105))=>(by
  have NB:W.heap[w.heap.size]?=some (.cells (Z5 (.slice pA np pc) (.slice eA M ec) (.slice zA zn zc) (.slice tA tn tc) z t).toArray 105 (0,0)):=by rw[dM.out];exact h
  exact⟨x5 NB (k:=0) rfl,x5 NB (k:=1) rfl,x5 NB (k:=2) rfl,x5 NB (k:=3) rfl,ZE h⟩:W.cell? w.heap.size=some (.slice pA np pc)/\W.cell? ⟨w.heap.size,1,none⟩=some (.slice eA M ec)/\W.cell? ⟨w.heap.size,2,none⟩=some (.slice zA zn zc)/\W.cell? ⟨w.heap.size,3,none⟩=some (.slice tA tn tc)/\w.heap.size<W.heap.size);go_enter func50,ntmps50;go_wp2;clear dZ;go_loopw [33] (fun i wr=>∃k:Nat,k<=m/\i=.int .i64 k/\Hid (ZO 3 wr (w.heap.size+2) (List.replicate k 1++List.replicate (m-k) 0))/\wr.heap[w.heap.size]?=some (.cells BA 105)/\wr.heap[w.heap.size+1]?=some (.cells #[(0:Int),.slice none 0 0] 48)/\QB w wr) (fun i _=>m-(intOf i).toNat);case atStart=>
  refine⟨0,e6 _,rfl,?_,?_,?_,?_⟩;·have:=ZO.new (T:=3) ((w.alloc (.cells BA 105)).alloc (.cells #[(0:Int),.slice none 0 0] 48)) (List.replicate m 0);simp only[hU]at this;exact i' (by simpa using this)
  .exact Qs
  .exact Qs
  .go_grown
 case round=>
  obtain⟨k,hk,rfl,hI,a,B,E⟩:=hrel;have fD:=hI.out.size;by_cases s:k<m
  .have bC:(k:Int)<(m:Int):=Qa
   have ci:=hI.out.loadD (k:=k) Qk;have fi:=hI.out.frozen k;have aQ:=i' (hI.out.store k 1);rw[AN s]at aQ;clear dE;go_wp2;go_roundw;case rel=>exact⟨k+1,Qa,Qj,aQ.out,ZC a Qg _,ZC B Qg _,E.setCell Qg _⟩
   case measure=>exact Qv
  .obtain rfl:m=k:=Qa
   have dP:=i' (show ZO 3 wr (w.heap.size+2) (List.replicate m 1)by simpa using hI.out);obtain⟨d0,d1,d2,d3,d4⟩:=c0.out _ a;clear hI s;go_wp2;clear d0 d1 d2 d3 d4;go_loopw [7,45] (fun v7 i wr=>∃(k:Nat)(xs:List IR),k<=zn/\i=.int .i64 k/\Hid (RowsOwn wr (w.heap.size+2) v7 xs/\xs.map IR.l=List.replicate m 1::(z.take k).map (hY m))/\wr.heap[w.heap.size]?=some (.cells BA 105)/\wr.heap[w.heap.size+1]?=some (.cells #[(0:Int),.slice none 0 0] 48)/\QB w wr)(fun _ i _=>zn-(intOf i).toNat);case atStart=>exact⟨0,_,e6 _,rfl,i' ⟨RowsOwn.one dP.out (h' _) Qd,Qd⟩,Zz a _,Zz B _,via E (ZB _ _)⟩
   case round=>
    clear dP a B E fD;obtain⟨k,xs,hk,rfl,f,a,B,E⟩:=hrel;have s0:=ZE a;have s1:=ZE B;by_cases s:k<zn
    .have bC:(k:Int)<(zn:Int):=Qa
     obtain⟨bz,oz,rfl,gE,cz⟩:=fZ.out wr E k s;obtain⟨i,Z⟩:∃i,z[k]?=some i:=⟨_,k2 (by rw[aN.out];exact s)⟩;have bA:(ZI z).getD k 0=(i:Int):=by rw[h6,p5 Z];rfl
     rw[bA]at cz;have dB:=fK.out i (n2 Z);have fB:(i:Int)<(m:Int):=by have:=cE.out;omega
     have bY:=i' (show (z.take (k+1)).map (hY m)=(z.take k).map (hY m)++[hY m i]by rw[w9,Z];simp);have cC:=i' (show xs.length=k+1 by have R:=w6 List.length f.out.2;rw[R']at R;simp only[r3,R',C3]at R;rw[aN.out]at R;omega);have bQ:=i' (ZO.new (T:=3) wr (List.replicate m 0));have ci:=bQ.out.loadD (k:=i) Qk;have fi:=bQ.out.frozen i;have aQ:=i' (bQ.out.store i 1);rw[I4 Qa]at aQ;obtain⟨A7,c7,rfl⟩:=Z2 f.out.1.own;have U:Below wr.heap.size wr (wr.alloc (.cells ((h9 (List.replicate m 0)).setIfInBounds i (.int .i64 1)) 3)):=ZB wr _;have aQ:=i' (show ZO 3 (wr.alloc (.cells ((h9 (List.replicate m 0)).setIfInBounds i (.int .i64 1)) 3)) wr.heap.size (hY m i)by rw[Pl,I4 Qa];exact ZO.new wr _);have S:=i' (f.out.1.below U);have bF:=i' f.out.2;have eP:=i' (show some wr.heap.size≠(Value.slice A7 xs.length c7).ownBlock from fun e=>M7 _ (f.out.1.own.lt _ e.symm).2);have Q0:=i' (Zx U a);have Q1:=i' (Zx U B);have aF:=i' (via E U);clear bA Z bQ f E U a B;go_wp2_with (at_builtin;refine iE _ rfl _ _ 136 rfl (w.heap.size+2) 30 i1 (.slice none 0 0) 1 24 underlying136 hj eJ eK bB rfl Qc _ _ _ rfl (S.out.own.alloc _) ⟨wr.heap.size+1,0,none⟩ 1 1 [.slice (some wr.heap.size) m m] rfl rfl ?c1 ?c2 Qc ?c3 ?c4 ?c5 (wr.heap.size+1+1) ?c6 ?_);case c1=>exact P2 _ [.slice (some wr.heap.size) m m] _ Qd
     case c2=>intro u hu;simp at hu;subst hu;rfl
     case c3=>have:=cC.out;unfold maxLen;omega
     case c4=>have:=cC.out;omega
     case c5=>have:=aF.out.size;simp at this;simp;omega
     case c6=>simp
     intro g fW w4 I aG cM fR;have dY:=i' (RowsOwn.push (x:=⟨some ⟨wr.heap.size,0,none⟩,m,hY m i⟩) S.out (ZB _ _) rfl ((aQ.out.at').below (ZB _ _)) Qg Qk eP.out aG (by show w4.ownsRow _ 30 1 _ _ (_++[Value.slice (some wr.heap.size) (hY m i).length m]);rw[show (hY m i).length=m by simp[hY]];exact I) (by simpa using cM));have eB:QB w w4:=ZW (via aF.out (ZB _ _)) aG fun b e=>by have:=(S.out.own.lt b e).1;omega
     have R0:=G1 aG (Zz Q0.out _) (v8 S.out.own Qa);have C:=G1 aG (Zz Q1.out _) (v8 S.out.own Qa);have K:=i' (show (xs++[(⟨some ⟨wr.heap.size,0,none⟩,m,hY m i⟩:IR)]).map IR.l=List.replicate m 1::(z.take (k+1)).map (hY m)from by rw[b3,bF.out,bY.out];rfl);clear I aG cM S bF Q0 Q1;go_wp2;go_roundw;case rel=>exact⟨k+1,_,Qa,Qj,⟨dY.out,K.out⟩,R0,C,eB⟩
     case measure=>exact Qv
    .obtain rfl:zn=k:=Qa
     have aC:z.take zn=z:=by rw[<-aN.out,x1]
     rw[aC]at f;obtain⟨d0,d1,d2,d3,d4⟩:=c0.out _ a;clear s dE dI aC;go_wp2;clear d0 d1 d2 d3 d4;go_loopw [7,63] (fun v7 i wr=>∃(k:Nat)(xs:List IR),k<=tn/\i=.int .i64 k/\Hid (RowsOwn wr (w.heap.size+2) v7 xs/\xs.map IR.l=List.replicate m 1::(z.map (hY m)++(t.take k).map fun i=>(X.getD i default).1++[(X.getD i default).2]))/\wr.heap[w.heap.size]?=some (.cells BA 105)/\wr.heap[w.heap.size+1]?=some (.cells #[(0:Int),.slice none 0 0] 48)/\QB w wr)(fun _ i _=>tn-(intOf i).toNat);case atStart=>exact⟨0,xs,e6 _,rfl,i' ⟨f.out.1,by rw[f.out.2];simp⟩,a,B,E⟩
     case round=>
      clear f a B E s0 s1;obtain⟨k,xs,hk,rfl,f,a,B,E⟩:=hrel;have s0:=ZE a;have s1:=ZE B;by_cases s:k<tn
      .have bC:(k:Int)<(tn:Int):=Qa
       obtain⟨bt,ot,rfl,gC,ct⟩:=fT.out wr E k s;obtain⟨i,Z⟩:∃i,t[k]?=some i:=⟨_,k2 (by rw[bH.out];exact s)⟩;have bA:(ZI t).getD k 0=(i:Int):=by rw[h6,p5 Z];rfl
       rw[bA]at ct;have dB:=eQ.out i (n2 Z);have fB:(i:Int)<(M:Int):=Qa
       obtain⟨x,be,oe,rfl,eY,aB,cD,cA,e0,e1,e2,bI,bK,bJ⟩:=fE.out wr E i dB;have bY:=i' (show (t.take (k+1)).map (fun i=>(X.getD i default).1++[(X.getD i default).2])=(t.take k).map (fun i=>(X.getD i default).1++[(X.getD i default).2])++[x.co++[x.mo]]by rw[w9,Z,b3,Option.toList_some,p1,N1,bK]);have cC:=i' (show xs.length<=20 by have R:=w6 List.length f.out.2;rw[R']at R;simp only[r3,M1,R',C3]at R;rw[aN.out,bH.out]at R;omega);obtain⟨d0,d1,d2,d3,d4⟩:=c0.out _ a;obtain⟨A7,c7,rfl⟩:=Z2 f.out.1.own;have bF:=i' f.out.2;have S:=i' f.out.1;have cO:=i' bI;have bL:=i' aB;clear bA Z f aB cD cA bI bK;have bJ:=i' bJ;have fJ:0<np:=by have:=aO.out;omega
       go_wp2;refine e9 ?_;intro W6 cX;have aS:Below wr.heap.size wr W6:=by rw[cX];exact ZB _ _
       have H6:W6.heap[wr.heap.size]?=some (.cells #[.string x.nm,.slice x.A np x.c,x.mo] 67):=by rw[cX];exact ZA _ _ rfl
       have aT:=i' (S.out.below aS);have Q0:=Zx aS a;have Q1:=Zx aS B;have Y:=via E aS;have fF:wr.heap.size<W6.heap.size:=ZE H6;have bZ:=i' (show ∀r,(Value.slice A7 xs.length c7).ownBlock=some r->w.heap.size+2<=r/\r<wr.heap.size from fun r e=>S.out.own.lt r e);have fV:=i' (cO.out.below aS);have eL:=i' fun(u:World)(hu:ZU w W6 (.slice A7 xs.length c7) u)=>(hu.2.2 _ fF (fun e=>M7 _ (bZ.out _ e.symm).2)).trans H6;have cP:=i' fun(u:World)(hu:ZU w W6 (.slice A7 xs.length c7) u)=>(by obtain⟨x',b',o',e1,-,e2,-,-,-,-,-,e3,-,e4⟩:=fE.out u hu.1 i dB;have cQ:=bJ.out;rw[e4]at cQ;cases cQ;exact e3:At 1 Zc u x.A x.co);clear cX aS S a B E cO d0 d1 d2 d3 d4 e0 e1 e2 ct;refine hK Qb ?_;refine H2 11 _ rfl rfl Qb Qb Qb Qb ?_;simp only[m',sT];apply UP w 1 4 7 8 9 10 np xs.length 3 (x.co.map (Value.int .i64)) [.int .i64 x.mo] (.cells #[] 3) (.cells #[x.mo] 3) (fun h=>.cells #[.slice h.a1 (np+1) h.c1] 30) (fun h=>[.slice h.a1 (np+1) h.c1]) (w.heap.size+2) 30 (.slice A7 xs.length c7) (xs.map fun x=>.slice x.A x.l.length x.c);case hB=>kernel_rfl
       case hB'=>intro g;kernel_rfl
       case hS|hN=>kernel_rfl
       case hne=>decide
       case hd1=>
        intro L hc;refine⟨fun o H h=>?_,fun o H h=>?_,fun o H h=>?_⟩;·simp at H;subst H;simp[Region.binds]at h;exact⟨by simp[h],by simp[h]⟩
        .simp at H;subst H;simp[Region.binds]at h;simp[h]
        .simp at H;subst H;simp[Region.binds]at h;simp[h]
       case hw=>exact Y
       case hv0=>intro r e;have:=(bZ.out r e).1;omega
       case hown=>exact aT.out.own
       case hal0=>intro o H g y;simp only[nK,n9,B3]at H;subst H;kernel_rfl
       case hal1=>intro o H g y;simp only[nK,n9,B3]at H;subst H;kernel_rfl
       case hal2=>intro o H g y;simp only[nK,n9,B3]at H;subst H;kernel_rfl
       case hcl=>intro o H g y q;simp only[nK,n9,B3]at H;subst H;exact UQ (P:=prog) (A:=x.A) (l:=x.co) (n:=np) (b:=(g 1).b) (c:=x.c) (.tmp 74) (.tmp 76) 30 3 i0 (.int .i64 0) 8 W6.heap.size bL.out Qe Qb Qb underlying30 hi dJ dK dL Qe Qc (cP.out y q) (by rw[bL.out];exact fJ) (by rw[bL.out];omega) q.2.1
       case hq=>
        intro g u hu gK gD gB;have D6:=bk3 (eL.out u hu);dsimp only[mixL,yieldsC,B4,S'];simp only[mixL,mkR6,yieldsC,B4,S',Nat.reduceAdd,Nat.reduceBEq,w0,k4,l5,p0,p',l3,Zyl,Zyk,k7,Nat.reduceEqDiff];repeat (go_big_quiet_step (fail))
        exact Zyi rfl
       case hap1=>intro o H g y q R h2;simp only[nK,n9,B3]at H;subst H;refine Exists.imp (fun v' h=>Exists.imp (fun x' h=>⟨h.1,h.2.1,h.2.2.1⟩) h) (IV (P:=prog) (b:=(g 7).b) (v:=.slice (g 4).a1 np (g 4).c1) (u:=.int .i64 x.mo) (tb:=3) (.tmp 77) (.tmp 80) 30 3 i0 (.int .i64 0) 8 W6.heap.size np (x.co.map (Value.int .i64)) Qe Qb Qb underlying30 hi dJ dK dL Qe Qc R h2 rfl Qa q.2.1)
       case hap2=>intro o H g y q R h2;simp only[nK,n9,B3]at H;subst H;exact IV (P:=prog) (.tmp 73) (.tmp 82) 136 30 i1 (.slice none 0 0) _ 24 _ _ _ _ _ _ rfl Qb Qb underlying136 hj eJ eK bB rfl Qc R h2 rfl (by have:=cC.out;omega) (by have:=Y.size;have:=q.2.1;omega)
       case hind=>exact Qy
       intro g y q R h2 h3;have cG:=i' (aT.out.row6 (l:=x.co++[x.mo]) (by have:=Y.size;omega) q (by rw[b3];exact R) Qa h2 h3);have R0:=(q.2.2 _ Qa (fun e=>by have:=(bZ.out _ e.symm).1;omega)).trans Q0;have C:=(q.2.2 _ Qa (fun e=>by have:=(bZ.out _ e.symm).1;omega)).trans Q1;have eC:=q.1;have K:=i' (show (xs++[(⟨(g 8).a1,(g 8).c1,x.co++[x.mo]⟩:IR)]).map IR.l=List.replicate m 1::(z.map (hY m)++(t.take (k+1)).map fun i=>(X.getD i default).1++[(X.getD i default).2])from by rw[b3,bF.out,bY.out];simp);obtain⟨A8,hA8⟩:=Qu ((g 10).a1);obtain⟨c8,eD⟩:=Qu ((g 10).c1);rw[hA8,eD]at cG;rw[hA8,eD];clear q R h2 h3 bY bF eL cP Q0 Q1 aT;dsimp only;go_wp2;go_roundw;case rel=>exact⟨k+1,_,Qa,Qj,⟨cG.out,K.out⟩,R0,C,eC⟩
       case measure=>exact Qv
      .obtain rfl:tn=k:=Qa
       have aC:t.take tn=t:=by rw[<-bH.out,x1]
       obtain⟨dG,K⟩:=f.out;rw[aC]at K;have aJ:xs.map IR.l=c9 np X z t:=by rw[K,<-cE.out];rfl
       have aB:xs.length=np:=by have R:=w6 List.length aJ;rw[R',AO]at R;have:=aO.out;omega
       obtain⟨A7,c7,rfl⟩:=Z2 dG.own;have gL:1<=np:=by have:=aO.out;omega
       have hS:=i' (zF A7 xs c7 wr dG.rowsAt (fun x hx=>by have:=VB (z:=z) (t:=t) cW.out (fun i hi=>by rw[aZ.out];exact eQ.out i hi) x.l (by rw[aU.out,<-aJ];exact L'.2 ⟨x,hx,rfl⟩);omega) Qa Qa (by rw[aJ,<-aU.out];exact uY cW.out z t));rw[aJ]at hS;rw[aB]at hS |-;have bX:=i' (show (c9 np X z t).length<=5/\gW (c9 np X z t)/\(c9 np X z t).length=np from⟨by rw[<-aJ,R'];omega,by rw[<-aU.out];exact uY cW.out z t,by rw[<-aJ,R'];exact aB⟩);obtain⟨sl,dH⟩:=Qu (D9 (c9 np X z t));have aH:=i' dH;unfold kX at hS;rw[dH]at hS;clear dH dG f aC s aB K aJ;rcases sl with _|⟨l,den⟩
       .dsimp only at hS;have N:=i' (show A' np X z t=none by unfold A';rw[aH.out]);go_wp2_with (go_at_call 73;refine hS.out.mono ?_;rintro e w2 ⟨rfl,aE⟩;have m:=Zx aE B;have C1:=bk2 m;have aX:=via E aE);refine x3 (v:=.tuple #[.agg #[(0:Int),.slice none 0 0],false]) ?_ rfl ⟨?_,?_⟩;·refine b4 (p:=2) (u:=3) (ad:=⟨w.heap.size+1,0,none⟩) (v:=.agg #[(0:Int),.slice none 0 0]) rfl Qe (y5 (T:=48) (cs:=[.int .i64 0,.slice none 0 0]) Qb Qb ?_);exact ZJ (ZJ (m) _ rfl) _ rfl
        .unfold r6;rw[N.out]
        .first|go_grown|(repeat' (first|assumption|refine lB ?_ Qg _))
       .dsimp only at hS;obtain⟨bW,eF,gF,eM⟩:=pT aH.out bX.out.1 bX.out.2.1;rw[bX.out.2.2]at bW;rw[bW]at hS;have G:=i' bW;have bE:=i' eM;clear eM bW bX;go_wp2_with (go_at_call 73;refine hS.out.mono ?_;rintro e w2 ⟨⟨v,rfl,hown⟩,aE⟩;obtain⟨aP,J,rfl⟩:=Z2 hown;have m:=Zx aE B;have C1:=bk2 m;have aX:=via E aE;have N0:=Zx aE a;have aK:=i' hown;clear hown);refine e9 ?_;intro W8 cY;have aV:Below w2.heap.size w2 W8:=by rw[cY];exact ZB _ _
        have cU:W8.heap[w2.heap.size]?=some (.cells #[den,.slice aP np J] 48):=by rw[cY];exact ZA _ _ rfl
        have aA:=i' (ZL aK.out aV);have P0:=Zx aV N0;have P1:=Zx aV m;have aY:=via aX aV;obtain⟨Q,hQ⟩:=Qu w2.heap.size;have dW:=i' (show ∀r,(Value.slice aP np J).ownBlock=some r->wr.heap.size<=r/\r<Q from fun r e=>by rw[<-hQ];exact aK.out.lt r e);have fG:=i' (show wr.heap.size<=Q by rw[<-hQ];exact aE.size);rw[hQ]at cU |-;have hcl:=i' fun(W:World)(H:W.ownsRow wr.heap.size 3 1 (.slice aP np J) np (l.map (Value.int .i64))) k (hk:k<np)=>(by
         obtain⟨g,R,h2,h3,h4⟩:=W5 H (k:=k) (u:=.int .i64 (l.getD k 0)) (by
          have:k<l.length:=by rw[G.out];exact hk
          rw[k3,h6,k2 this];rfl);exact⟨g,R,h3,h4⟩:∃g,aP=some ⟨g,0,none⟩/\g<W.heap.size/\W.cell? ⟨g,k,none⟩=some (.int .i64 (l.getD k 0)));have dO:w.heap.size+2<=wr.heap.size:=Qa
        obtain⟨Bs,dN⟩:=Qu wr.heap.size;rw[dN]at aA dW fG hcl dO;clear cY aK a B N0 m C1 E aX aV aE hS hQ dN;go_loopw [99] (fun i fM=>∃k:Nat,k<=np/\i=.int .i64 k/\Hid (∀j,j<k->¬l.getD j 0<0)/\W8=fM)(fun i _=>np-(intOf i).toNat);case atStart=>exact⟨0,e6 _,rfl,fun j hj=>Qa,rfl⟩
        case round=>
         obtain⟨k,hk,rfl,dF,rfl⟩:=hrel;by_cases s:k<np
         .have bC:(k:Int)<(np:Int):=Qa
          obtain⟨g,rfl,hg,cl⟩:=hcl.out W8 aA.out k s;obtain⟨x,hx⟩:=Qu (l.getD k 0);rw[hx]at cl;have eS:=i' hx;clear hx;by_cases eT:x<0
          .have N:=i' (show A' np X z t=none by unfold A';rw[aH.out];simp only;rw[r4 (VC (k:=k) (by rw[G.out];exact s) (by rw[eS.out];exact eT))]);have C1:=bk2 P1;go_wp2;refine x3 (v:=.tuple #[.agg #[(0:Int),.slice none 0 0],false]) ?_ rfl ⟨?_,?_⟩;·refine b4 (p:=2) (u:=3) (ad:=⟨w.heap.size+1,0,none⟩) (v:=.agg #[(0:Int),.slice none 0 0]) rfl Qe (y5 (T:=48) (cs:=[.int .i64 0,.slice none 0 0]) Qb Qb ?_);exact ZJ (ZJ (P1) _ rfl) _ rfl
           .unfold r6;rw[N.out]
           .first|go_grown|(repeat' (first|assumption|refine lB ?_ Qg _))
          .go_wp2;go_roundw;case rel=>exact⟨k+1,Qa,Qj,(fun j hj=>by
            by_cases dC:j=k;·rw[dC,eS.out];exact eT
            .exact dF.out j Qa),Qr⟩
           case measure=>exact Qv
         .obtain rfl:np=k:=Qa
          obtain⟨d0,d1,d2,d3,d4⟩:=c0.out _ P0;have cL:=i' (show l.any (·<0)=false from VD fun k hk=>dF.out k (by rw[G.out]at hk;exact hk));clear dF s;go_wp2;clear d0 d1 d2 d3 d4;go_loopw [111] (fun i eW=>∃k:Nat,k<=M/\i=.int .i64 k/\Hid (∀j,j<k->dotL (X.getD j default).1 l<=(X.getD j default).2*den)/\eW.heap[Q]?=some (.cells #[den,.slice aP np J] 48)/\QB W8 eW)(fun i _=>M-(intOf i).toNat);case atStart=>exact⟨0,e6 _,rfl,fun j hj=>Qa,cU,q' _ _⟩
          case round=>
           clear cU;obtain⟨k,hk,rfl,bG,bT,aI⟩:=hrel;have aL:=via aY aI;have O:=i' (ZL aA.out aI);by_cases s:k<M
           .have bC:(k:Int)<(M:Int):=Qa
            obtain⟨x,be,oe,rfl,eY,aB,cD,cA,e0,e1,e2,bI,bK,bJ⟩:=fE.out wr aL k s;have cT:=i' fun W (hb:Below wr.heap.size wr W)=>VA x.nm x.A aP x.co l x.c J np x.mo den W (bI.below hb) (e7 (ZL O.out hb)) aB G.out Qa cD cA (fun y q=>w7 (bE.out y q) Qc) Qa;have cR:=i' bK;obtain⟨d,hd⟩:=Qu (decide (dotL x.co l<=x.mo*den));rw[hd]at cT;have eE:=i' hd;have cV:=Zz bT (.cells #[.string x.nm,.slice x.A np x.c,x.mo] 67);have D:=bk2 cV;have gM:=ZE bT;clear hd bI aB cD cA bK bJ;cases d with
            |false=>
             have N:=i' (show A' np X z t=none by unfold A';rw[aH.out];simp only;rw[Zc9 (by rw[cL.out];decide),r4 (VE (k:=k) (by rw[<-aU.out,A5,aZ.out];exact s) (by rw[cR.out];exact of_decide_eq_false eE.out))]);go_wp2_with (go_at_call 74;refine(cT.out _ (ZB _ _)).mono ?_;rintro e fL ⟨rfl,aD⟩;have cF:=Zx aD cV;have V:=via (ZB wr (.cells #[.string x.nm,.slice x.A np x.c,x.mo] 67)) aD;have C:=Zx V (Zx aI P1);have C1:=bk2 C;have cZ:=via aL V);refine x3 (v:=.tuple #[.agg #[(0:Int),.slice none 0 0],false]) ?_ rfl ⟨?_,?_⟩;·refine b4 (p:=2) (u:=3) (ad:=⟨w.heap.size+1,0,none⟩) (v:=.agg #[(0:Int),.slice none 0 0]) rfl Qe (y5 (T:=48) (cs:=[.int .i64 0,.slice none 0 0]) Qb Qb ?_);exact ZJ (ZJ (C) _ rfl) _ rfl
             .unfold r6;rw[N.out]
             .first|go_grown|(repeat' (first|assumption|refine lB ?_ Qg _))
            |true=>
             go_wp2_with (go_at_call 74;refine(cT.out _ (ZB _ _)).mono ?_;rintro e fL ⟨rfl,aD⟩;have cF:=Zx aD cV;have V:=via (ZB wr (.cells #[.string x.nm,.slice x.A np x.c,x.mo] 67)) aD;have C:=Zx V (Zx aI P1);have C1:=bk2 C;have cZ:=via aL V);go_roundw;case rel=>exact⟨k+1,Qa,Qj,(fun j hj=>by
              by_cases dC:j=k;·rw[dC,cR.out];exact of_decide_eq_true eE.out
              .exact bG.out j Qa),cF,via aI V⟩
             case measure=>exact Qv
           .obtain rfl:M=k:=Qa
            have bM:A' np X z t=some (l.map (· / (gcdL 0 (den::l):Int)),den / (gcdL 0 (den::l):Int)):=by unfold A';rw[aH.out];simp only;rw[Zc9 (by rw[cL.out];decide),Zc9 (by rw[VF fun j hj=>bG.out j (by rw[<-aU.out,A5,aZ.out]at hj;exact hj)];decide)]
            have bU:=(X0 (den::l) 0).2;have eX:0<gcdL 0 (den::l):=B6 den Qd Qa;have bP:=i' fun A c w' hA=>pP A (den::l) c w' hA (by simp only[r3];rw[G.out];omega) (by
             intro x hx;rcases ZA1.1 hx with rfl|hx;·exact w7 eF Qc
             .exact w7 (bE.out x hx) Qc);have cJ:(den::l).length=1+np:=by simp only[r3];rw[G.out];omega
            rw[cJ]at bP;obtain⟨F,eI⟩:∃F:Int,((gcdL 0 (den::l):Nat):Int)=F:=⟨_,rfl⟩;rw[eI]at bM bU bP;have eH:0<F:=Qa
            have fA:¬F=0:=Qa
            have gJ:(F==0)=false:=by simpa using fA
            have dI:IntKind.i64.wrap (den.tdiv F)=den / F:=kN eH (bU den Qd) eF Qc;have fH:=i' fun j (hj:j<np)=>(kN eH (bU (l.getD j 0) (by
             have bB:j<l.length:=by rw[G.out];exact hj
             rw[h6,k2 bB];exact N2 _ (D1 bB))) (bE.out.get j) Qc:IntKind.i64.wrap ((l.getD j 0).tdiv F)=l.getD j 0 / F);have bN:=i' bM;have bD:=i' fun(x:World)=>(⟨rfl,.inr ⟨x.heap.size,1,#[.int .i64 den],rfl,h' _,ZA _ _ rfl,h' _,Qc,rfl,rfl⟩⟩:(x.alloc (.cells #[den] 3)).ownsRow x.heap.size 3 1 (.slice (some x.heap.size) 1 1) 1 [.int .i64 den]);obtain⟨g,rfl,fQ,-⟩:=hcl.out wr O.out 0 (by have:=aO.out;omega);have dX:=i' (dW.out g rfl);clear bM bU eX eI cJ bG s;go_wp2_with (at_builtin;refine C0 _ rfl _ _ 30 rfl wr.heap.size 3 i0 (.int .i64 0) 1 8 underlying30 hi dJ dK dL rfl Qc _ _ _ rfl (bD.out wr) ⟨g,0,none⟩ np J (l.map (Value.int .i64)) rfl ?c0 ?c1 ?c2 ?c3 ?c4 ?c5 ?_);case c0=>rw[R',G.out,w8]
            case c1=>
             intro j u hu;obtain⟨g',e1,-,-,e2⟩:=W5 (ZL O.out (ZB wr (.cells #[den] 3))) hu;cases e1;have e:Addr.add ⟨g,0,none⟩ j=⟨g,j,none⟩:=by unfold Addr.add;split<;>simp_all
             rw[e];exact e2
            case c2=>intro u hu;obtain⟨y,-,rfl⟩:=L'.1 hu;rfl
            case c3=>unfold maxLen;omega
            case c4=>omega
            case c5=>simp
            intro v4 w4 I aG _;obtain⟨A4,c4,rfl⟩:=Z2 I;have aM:Below wr.heap.size wr w4:=ZW (ZB wr _) aG fun b e=>by cases e;exact h' _
            have cH:=i' (show At 1 Zc w4 A4 (den::l)from e7 (l:=den::l) I);have dQ:=i' (ZL O.out aM);have dU:=Zx aM bT;have cI:=via aI aM;clear I aG aM O bT aI aL;go_wp2_with (go_at_call 61;refine(bP.out _ _ _ cH.out).mono ?_;rintro e w5 ⟨rfl,U⟩;have bS:=Zx U dU;have D:=bk2 bS);have dR:=i' (ZL dQ.out U);have aW:=via cI U;have C:=Zx aW P1;have aF:=via aY aW;obtain⟨fN,fO⟩:=dX.out;have fU:=ZE bS;clear dQ dU cI U cH bP bD D aW P0 P1 aA aY;go_loopw [129] (fun i wr=>∃k:Nat,k<=np/\i=.int .i64 k/\Hid (wr.ownsRow Bs 3 1 (.slice (some g) np J) np (((l.take k).map (· / F)++l.drop k).map (Value.int .i64)))/\wr.heap[Q]?=some (.cells #[den,.slice (some g) np J] 48)/\wr.heap[w.heap.size+1]?=some (.cells #[(0:Int),.slice none 0 0] 48)/\QB w wr)(fun i _=>np-(intOf i).toNat);case atStart=>exact⟨0,e6 _,rfl,i' (by simpa using dR.out),bS,C,aF⟩
            case round=>
             clear dR bS C aF;obtain⟨k,hk,rfl,aR,dV,C,Y⟩:=hrel;have D:=bk2 dV;by_cases s:k<np
             .have bC:(k:Int)<(np:Int):=Qa
              have dD:k<l.length:=by rw[G.out];exact s
              obtain⟨g',e1,gG,gH,ci⟩:=W5 aR.out (k:=k) (u:=.int .i64 (l.getD k 0)) (by rw[k3,zI dD];rfl);cases e1;have fi:=U' aR.out k;have cS:=i' (U6 aR.out s (.int .i64 (l.getD k 0 / F)));have cN:(((l.take k).map (· / F)++l.drop k).map (Value.int .i64)).set k (.int .i64 (l.getD k 0 / F))=((l.take (k+1)).map (· / F)++l.drop (k+1)).map (Value.int .i64):=by rw[<-zH dD,jC]
              rw[cN]at cS;have fI:=fH.out k s;obtain⟨y,q⟩:=Qu (l.getD k 0);rw[q]at ci fI cS;clear q dD cN aR;go_wp2;go_roundw;case rel=>exact⟨k+1,Qa,Qj,cS.out,ZC dV Qg _,ZC C Qg _,Y.setCell Qg _⟩
              case measure=>exact Qv
             .obtain rfl:np=k:=Qa
              have dS:=i' aR.out;rw[show l.take np=l by rw[<-G.out,x1],show l.drop np=[]by rw[<-G.out,List.drop_length],N3]at dS;have C1:=bk2 C;clear aR;have eN:w.heap.size+1≠Q:=Qa
              have fS:Q≠w.heap.size+1:=Qa
              have eO:g≠Q:=Qa
              have cK:g≠w.heap.size+1:=Qa
              obtain⟨d2,eZ⟩:=Qu (den / F);rw[eZ]at dI bN;go_wp2;refine x3 (v:=.tuple #[.agg #[d2,.slice (some g) np J],true]) ?_ rfl ⟨?_,?_⟩;·refine b4 (p:=2) (u:=3) (ad:=⟨w.heap.size+1,0,none⟩) (v:=.agg #[d2,.slice (some g) np J]) rfl Qe (y5 (T:=48) (cs:=[.int .i64 d2,.slice (some g) np J]) Qb Qb ?_);exact ZJ (ZJ (ZC C eN _) _ rfl) _ rfl
              .unfold r6;rw[bN.out];refine⟨_,_,rfl,b2 (A9 dS.out fun r e=>?_) (w7 Qa dO)⟩;cases e;rw[hH _ _ _ _ cK,hH _ _ _ _ cK,hH _ _ _ _ eO]
              .exact((Y.setCell Qg _).setCell Qg _).setCell Qg _
end Go.Proofs
namespace Go.Proofs
open Tryz
open Go.RowKit
attribute [local go_sem] Oper.semAt_some def SI(n k:Nat)(M:Nat->Prop)(w:World)(J:List ChV->(Nat->Prop)->World->Prop)(a B O Q:Nat)(f:Nat)(wr:World):Prop:=∃i l t T,f+i=(cmb 0 n k).length/\ChI n k M w J a B O Q i l wr t T
def AP(m n k:Nat)(C:k<=n)(hn:n<=1000)(O Q:Nat)(M:Nat->Prop)(w:World)(g:w.heap[O]?=some (.cells #[k] 3))(h2:w.heap[Q]?=some (.cells #[n] 3))(hM1:¬M O)(hM2:¬M Q)(hMw:∀j,M j->j<w.heap.size):AB Fence.wide m prog 72 #[.pointer (some O),.pointer (some Q)] nF gvN M (fun t x W=>(t++[x]).map ChV.l<+:cmb 0 n k/\ZO 3 W x.b (ZI x.l)/\x.l.length=k)
   (fun xs=>xs.map ChV.l=cmb 0 n k) (fun t=>t.map ChV.l<+:cmb 0 n k) (cmb 0 n k).length w:=by
 intro l J Jx W hW dO cJ hJ cE hY h0;have dY:=hW.size;have g1:=hW.block O (ZE g);have g2:=hW.block Q (ZE h2);rw[g]at g1;rw[h2]at g2;have dH:=ZE g;have dI:=ZE h2;have cN:=i' (W9 k Qa);have bP:=cN.out;have G1:=bk1 g1;have S:=i' hJ;have cF:=i' hMw;have cG:=i' hY;have bI:=i' hM1;have bJ:=i' hM2;have cC:=i' h0;have cK:=i' (gQ 0 n k);have aG:=i' (uD 0 n k C);have aC:=i' fun i l h=>FU 0 n k (n-k) Qa i l h;have bO:=i' C;have bW:k<=1000:=Qa
 clear h0 hJ cE hY hM1 hM2 hMw g h2 C;refine callsIn_of_wp func72 rfl trivial ?_;simp only[ntmps72,M0,r3,hG,Nat.reduceAdd,Nat.reduceSub,jF,qB,qC,fI,s0,hP];gi_wp2_with fail;clear bP G1;gi_loopw [12] (fun i wr=>∃j:Nat,j<=k/\i=.int .i64 j/\ZO 3 wr W.heap.size (D6 k j)/\W.grownBy wr none/\W.heap.size<wr.heap.size)(fun i _=>k-(intOf i).toNat);case atStart=>exact⟨0,e6 _,rfl,by have:=ZO.new (T:=3) W (List.replicate k 0);simpa [D6,ZI] using this,uO W _ none,Qd⟩
 case round=>
  obtain⟨j,hj,rfl,hm,v,bD⟩:=hrel;by_cases aY:j<k
  .have dM:(j:Int)<(k:Int):=Qa
   have cj:=hm.loadD (k:=j) (by rw[T7 hj];exact aY);have fj:=hm.frozen j;have cL:=i' (hm.store j (j:Int));have dN:IntKind.i64.wrap ((j:Int)+1)=((j+1:Nat):Int):=by rw[Int.natCast_add];exact j0 _ Qa
   gi_wp2;go_roundw;case rel=>have:=cL.out;rw[T6 aY]at this;exact⟨j+1,Qa,Qj,this,⟨v.os,v.tape,v.output,by simp;exact v.size,fun i hi _=>(hH wr _ _ i Qk).trans (v.block i hi Qd)⟩,by simpa using bD⟩
   case measure=>exact Qv
  .obtain rfl:j=k:=Qa
   rw[T8]at hm;have bH:SI n j M w J W.heap.size W.heap.size O Q (cmb 0 n j).length wr:=⟨0,_,[],fun _=>False,Qa,rfl,rfl,aG.out,hm,S.out _ _ _ _ none cC.out v (fun r e=>by cases e),fun r h=>h.elim,(v.block _ (ZE g1) Qd).trans g1,(v.block _ (ZE g2) Qd).trans g2,h' _,bD⟩;obtain⟨B,aU⟩:∃B:Nat->World->Prop,B=fun f wr=>SI n j M w J W.heap.size W.heap.size O Q f wr:=⟨_,rfl⟩;have aK:Hid (∀f wr,B f wr->SI n j M w J W.heap.size W.heap.size O Q f wr):=by rw[aU];exact fun _ _ h=>h
   have V:Hid (∀f wr,SI n j M w J W.heap.size W.heap.size O Q f wr->B f wr):=by rw[aU];exact fun _ _ h=>h
   have R:=i' bH;obtain⟨o,aV⟩:=Qu W.heap.size;rw[aV]at aK V R cJ;have dC:=i' aV;rw[aV];clear aU bH hm v bD aY g1 g2;gi_wp2;gi_loopw [6] (fun _ wr=>∃f,B f wr)(fun _ wr=>leastOf fun f=>B f wr);case atStart=>exact⟨_,V.out _ _ R.out⟩
   case round=>
    clear R;obtain⟨f,hf⟩:∃f,(leastOf fun f=>B f wr)=f:=⟨_,rfl⟩;have aX:=(sX hrel).1;rw[hf]at aX;have cI:=i' hf;clear hf hrel;obtain⟨i,L,t,T,dK,hc⟩:=aK.out _ _ aX;clear aX;obtain⟨aO,aP,z,aD,bT,aJ,bE,bF,bU⟩:=hc;have C1:=bk1 bE;have C2:=bk1 bF;have aT:=cK.out L (n2 z);have dL:i<(cmb 0 n j).length:=(y'.1 z).1;have bC:(t++[(⟨o,L⟩:ChV)]).map ChV.l=(cmb 0 n j).take (i+1):=by rw[b3,aP,w9,z];rfl
    have bB:(t++[(⟨o,L⟩:ChV)]).map ChV.l<+:cmb 0 n j:=by rw[bC];exact List.take_prefix _ _
    obtain⟨fn,tm,bX,bY,N,hR⟩:=cG.out t T ⟨o,L⟩ wr bT (fun r c=>⟨by have:=(aJ r c).1;omega,(aJ r c).2.1⟩) (fun y _ r c=>c.elim) Qa ⟨bB,aD,aT⟩;have cY:(Instr.yield l #[.slice (some o) j j]).run prog wr=.ok (.round l fn tm bX bY) wr:=by have:=N;simp only[nF,aT]at this;exact this
    have bK:=i' hR;have dP:(j:Int)<=(n:Int):=by have:=bO.out;omega
    have aL:=i' bC;have bR:=i' bB;have aF:=i' aJ;have aE:=i' aD;have aM:=i' bE;have aN:=i' bF;have I:=i' z;have dG:=bU.2;have bG:=i' aO;clear N hR bC bB aP bT aJ aD z bE bF bU aO;gi_wp2_with fail;clear cY C1 C2;refine⟨fun h=>(by cases h),bK.out.mono ?_⟩;clear bK;rintro e w4 ⟨T',t1,t2,aA,(⟨rfl,U⟩|⟨rfl,U⟩)⟩
    .have bL:∀r,T' r->o<=r/\r<w4.heap.size/\r≠o:=fun r c=>by
      have h2:=t2 r c;rcases t1 r c with h|h;·have:=aF.out r h;omega
      .omega
     have aH:∀b,(b=o∨b=O∨b=Q)->¬(M b∨T b∨b=l):=by
      rintro b hb (h|h|h)
      .rcases hb with rfl|rfl|rfl;·have:=cF.out _ h;omega
       .exact bI.out h
       .exact bJ.out h
      .have:=aF.out b h;omega
      .omega
     have aQ:=aE.out.grown aA (aH o (.inl rfl));have q1:=aA.obj (aH O (.inr (.inl rfl))) aM.out;have q2:=aA.obj (aH Q (.inr (.inr rfl))) aN.out;have D1:=bk1 q1;have D2:=bk1 q2;obtain⟨m0,aZ⟩:=Qu (n-j);have cQ:IntKind.i64.wrap ((j:Int)-1)=(j:Int)-1:=j0 _ Qa;have K:=i' U;have X:=i' bL;clear aA t1 t2 U bL aH aE aM aN aF;gi_wp2;gi_loopw [6] (fun aR P=>∃a:Nat,a<=j/\aR=.int .i64 ((a:Int)-1)/\Hid (∀q y,a<=q->L[q]?=some y->y=m0+q)/\QB w4 P)(fun aR _=>(intOf aR+1).toNat);case atStart=>exact⟨j,h' _,rfl,fun q y hq N=>by have:=(y'.1 N).1;omega,q' _ _⟩
     case round=>
      obtain⟨a,ha,rfl,u,G⟩:=hrel;have r1:=Zx G q1;have r2:=Zx G q2;have D:=aQ.below G;have E1:=bk1 r1;have E2:=bk1 r2;have dV:IntKind.i64.wrap ((n:Int)-(j:Int))=(m0:Int):=by rw[j0 _ Qa];omega
      rcases a with _|b
      .have e0:((0:Nat):Int)-1=-1:=rfl;rw[e0];have cO:decide ((0:Int)<=-1)=false:=rfl;gi_wp2;refine wpIn_wide.2 ?_;refine c8 w4 Qb Qb G ?_;intro Z Y;repeat (go_big_quiet_step (fail))
       refine Zyi ?_;intro F s d H;clear Z Y;have aS:=i' (S.out _ _ _ _ none K.out (IP d) (fun r e=>by cases e));have bN:Hid (i+1=(cmb 0 n j).length):=by have g:=aC.out i L I.out;rw[uE (n-j) L (fun q x A=>by rw[aZ];exact u.out q x (e6 _) A)]at g;have:=zA.1 g.symm;show _=_;omega
       gi_wp2;refine x3 (results_none rfl _ _ _) rfl ?_;exact⟨⟨_,rfl⟩,.inl ⟨_,T',by rw[aL.out,bN.out,x1],aS.out⟩⟩
      .have e0:((b+1:Nat):Int)-1=(b:Int):=Qa
       rw[e0];obtain⟨x,A⟩:∃x,L[b]?=some x:=⟨_,k2 Qa⟩;have cx:=D.load (p5 A);have eA:x<n:=(Asc.lt (eS 0 n j L (n2 I.out)) x (n2 A)).2|>fun h=>Qa
       have dJ:(b:Int)<(j:Int):=Qa
       have cO:decide ((0:Int)<=(b:Int))=true:=Qd
       have dE:IntKind.i64.wrap ((m0:Int)+(b:Int))=(m0:Int)+(b:Int):=j0 _ Qa;have eB:=D.size;by_cases aI:x=m0+b
       .have cV:((x:Int)==(m0:Int)+(b:Int))=true:=Qk
        have bA:=i' (show ∀q y,b<=q->L[q]?=some y->y=m0+q from fun q y hq N=>by
         rcases Nat.eq_or_lt_of_le hq with rfl|hq;·rw[A]at N;cases N;exact aI
         .exact u.out q y hq N);have cR:IntKind.i64.wrap ((b:Int)-1)=(b:Int)-1:=j0 _ Qa;clear aI u A;gi_wp2;refine wpIn_wide.2 ?_;refine c8 w4 Qb Qb G ?_;intro Z Y;repeat (go_big_quiet_step (fail))
        refine Zyi ?_;intro F s d H;clear Z Y;gi_wp2;go_roundw;case rel=>exact⟨b,Qa,rfl,bA.out,d⟩
        case measure=>exact Qv
       .have cV:((x:Int)==(m0:Int)+(b:Int))=false:=Qk
        have cS:IntKind.i64.wrap ((x:Int)+1)=(x:Int)+1:=j0 _ Qa;have cW:=i' (show ((x:Int)+1)=((x+1:Nat):Int)by omega);have cR:IntKind.i64.wrap ((b:Int)+1)=((b+1:Nat):Int):=by rw[j0 _ Qa];omega
        have cP:=i' ((HV (n-j) L b x A (by rw[aZ];exact aI) (fun q y hq N=>by rw[aZ];exact u.out q y Qa N)).symm.trans (aC.out i L I.out));have cU:=i' A;have cM:=i' D;have eC:=i' r1;have eD:=i' r2;clear aI u A cQ;gi_wp2;refine wpIn_wide.2 ?_;refine c8 w4 Qb Qb G ?_;intro Z Y;repeat (go_big_quiet_step (fail))
        refine Zyi ?_;intro F s d H;clear Z Y;have s1:=Zx s r1;have s2:=Zx s r2;have E:=D.below s;have F1:=bk1 s1;have F2:=bk1 s2;have bZ:=E.load (p5 cU.out);have cA:=E.frozen b;have aS:=i' (S.out _ _ _ _ none K.out (IP d) (fun r e=>by cases e));have dZ:=E.size;clear E1 E2 r1 r2 D cx aQ q1 q2 D1 D2;have cH:b<L.length:=Qa
        have bV:=i' (show ZO 3 (F.setCell ⟨o,b,none⟩ (.int .i64 ((x:Int)+1))) o (ZI (fZ L b x (b+1)))from by rw[<-UA cH,<-IN,cW.out];exact E.store b _);have dA:=i' (ZC s1 (p:=⟨o,b,none⟩) Qg (.int .i64 ((x:Int)+1)));have dB:=i' (ZC s2 (p:=⟨o,b,none⟩) Qg (.int .i64 ((x:Int)+1)));have cD:=i' (S.out _ _ _ _ (some o) aS.out (IQ F o b (.int .i64 ((x:Int)+1))) (fun r e=>by cases e;exact⟨Qa,fun h=>(X.out _ h).2.2 rfl,fun y _ h=>h⟩));gi_wp2;have dD:(F.setCell ⟨o,b,none⟩ (.int .i64 ((x:Int)+1))).heap.size=F.heap.size:=Qd
        generalize F.setCell ⟨o,b,none⟩ (.int .i64 ((x:Int)+1))=w5 at*;have bM:=i' (fun r c=>by have g:=X.out r c;have h2:=d.size;exact⟨g.1,Qa,g.2.2⟩:∀r,T' r->o<=r/\r<w5.heap.size/\r≠o);clear s1 s2 F1 F2 E bZ cA s d H G cS;gi_loopw [7] (fun q_ P=>∃q:Nat,b<q/\q<=j/\q_=.int .i64 q/\Hid (ZO 3 P o (ZI (fZ L b x q))/\P.heap[O]?=some (.cells #[j] 3)/\P.heap[Q]?=some (.cells #[n] 3)/\J (t++[⟨o,L⟩]) T' P/\P.heap.size=w5.heap.size))(fun q_ _=>j-(intOf q_).toNat);case atStart=>exact⟨b+1,Qa,Qa,rfl,bV.out,dA.out,dB.out,cD.out,rfl⟩
        case round=>
         obtain⟨q,aW,dU,rfl,bQ⟩:=hrel;obtain⟨u0,u1,u2,u3,u4⟩:=bQ.out;clear bQ;have E1:=bk1 u1;by_cases bS:q<j
         .have dS:(q:Int)<(j:Int):=Qa
          obtain⟨p,rfl⟩:∃p,q=p+1:=⟨q-1,Qa⟩;have dR:((p+1:Nat):Int)-1=(p:Int):=Qa
          have dW:IntKind.i64.wrap (((p+1:Nat):Int)-1)=(p:Int):=by rw[j0 _ Qa];omega
          have dQ:(p:Int)<(j:Int):=Qa
          have cq:=u0.load (p5 (by have:=UD (l:=L) (x:=x) aW Qa;rwa [A7]at this));have cX:x+(p+1-b)<=2000:=Qa
          obtain⟨y,N⟩:=Qu (x+(p+1-b));rw[N]at cq cX;have cT:IntKind.i64.wrap ((y:Int)+1)=((y+1:Nat):Int):=by rw[j0 _ Qa];omega
          have dX:IntKind.i64.wrap (((p+1:Nat):Int)+1)=((p+1+1:Nat):Int):=by rw[j0 _ Qa];omega
          have cs:=u0.loadD (k:=p+1) (by rw[Q3,UC aW Qa];omega);have fs:=u0.frozen (p+1);have cZ:=i' (show ((y:Int)+1)=((y+1:Nat):Int)by omega);have v0:=i' (show ZO 3 (wr.setCell ⟨o,p+1,none⟩ (.int .i64 ((y:Int)+1))) o (ZI (fZ L b x (p+1+1)))from by have:=UB (l:=L) (x:=x) aW Qa;rw[N]at this;rw[<-this,<-IN,cZ.out];exact u0.store (p+1) _);have v1:=i' (ZC u1 (p:=⟨o,p+1,none⟩) Qg (.int .i64 ((y:Int)+1)));have v2:=i' (ZC u2 (p:=⟨o,p+1,none⟩) Qg (.int .i64 ((y:Int)+1)));have vJ:=i' (S.out _ _ _ _ (some o) u3 (IQ wr o (p+1) (.int .i64 ((y:Int)+1))) (fun r e=>by cases e;exact⟨Qa,fun h=>(X.out _ h).2.2 rfl,fun y _ h=>h⟩));have dF:IntKind.i64.wrap ((y:Int)+1)=(y:Int)+1:=j0 _ Qa;clear cT N u0 u1 u2 u3;gi_wp2;go_roundw;case rel=>exact⟨p+1+1,Qa,Qa,rfl,v0.out,v1.out,v2.out,vJ.out,by simpa using u4⟩
          case measure=>exact Qv
         .obtain rfl:q=j:=Qa
          have aB:=i' (V.out (f-1) wr ⟨i+1,fZ L b x q,t++[⟨o,L⟩],T',Qa,⟨by rw[M1,bG.out];rfl,aL.out,by have:=cP.out;rw[<-this,<-aT,UE],u0,u3,fun r c=>by rw[u4];exact bM.out r c,u1,u2,h' _,u0.size⟩⟩);clear u0 u1 u2 u3 bS;gi_wp2;refine⟨⟨f-1,aB.out⟩,?_⟩;rw[cI.out];exact qA ((sX (p:=fun f=>B f wr) ⟨f-1,aB.out⟩).2 (f-1) aB.out) Qa
    .have K:=i' U;clear aA U t1 t2;gi_wp2;refine x3 (results_none rfl _ _ _) rfl ?_;exact⟨⟨_,rfl⟩,.inr ⟨_,T',bR.out,K.out⟩⟩
end Go.Proofs
namespace Go.Proofs
open Tryz
open Go.RowKit
def AQ:(Z5 (.slice none 0 0) (.slice none 0 0) (.slice none 0 0) (.slice none 0 0) [] []).toArray=#[.slice none 0 0,.slice none 0 0,.slice none 0 0,.slice none 0 0,.bool false,.bool false,.bool false,.bool false,.bool false,.bool false,.bool false,.bool false,.bool false,.bool false,.bool false,.bool false,.bool false]:=by simp[Z5,boolL,cM]
def VH(a d:Value):(Z5 a d (.slice none 0 0) (.slice none 0 0) [] []).toArray=#[a,d,.slice none 0 0,.slice none 0 0,.bool false,.bool false,.bool false,.bool false,.bool false,.bool false,.bool false,.bool false,.bool false,.bool false,.bool false,.bool false,.bool false]:=by simp[Z5,boolL,cM]
def I5(n:Nat)(z:List Nat):∀u∈boolL n z,u.oneCell'=true:=by intro u d;obtain⟨i,-,rfl⟩:=L'.1 d;rfl
def uZ{a f i h:Value} {z t:List Nat} (m:a.oneCell'=true)(o:f.oneCell'=true)(p:i.oneCell'=true)(h4:h.oneCell'=true):∀u∈Z5 a f i h z t,u.oneCell'=true:=by
 intro u d;simp only[Z5,ZA1,C1]at d;rcases d with rfl|rfl|rfl|rfl|d|d;·exact m
 .exact o
 .exact p
 .exact h4
 .exact I5 _ _ _ d
 .exact I5 _ _ _ d
def VI(L H A:Option Addr)(d O j I cl:Nat)(l:List Nat)(w:World)(hl:At 1 Zc w A (ZI l))(U:Asc 0 (d+j) l)(hp:d<=5)(he:j<=8):Calls prog 48 #[.agg #[.slice L d O,.slice H j I],.slice A l.length cl] w fun e w'=>(∃zv tv,e=.returned (.agg (Z5 (.slice L d O) (.slice H j I) zv tv (zerosL d l) (tightL d l)).toArray)/\w'.ownsRow w.heap.size 3 1 zv (zerosL d l).length ((ZI (zerosL d l)).map (Value.int .i64))/\w'.ownsRow w.heap.size 3 1 tv (tightL d l).length ((ZI (tightL d l)).map (Value.int .i64)))/\QB w w':=by
 have bQ:l.length<=13:=by
  have:∀(l:List Nat)(a b:Nat),Asc a b l->l.length<=b-a:=by intro l;induction l with|nil=>intro a b _;exact e6 _|cons x t ih=>intro a b h;have h1:=ih (x+1) b h.2.2;have h2:=h.1;have h3:=h.2.1;simp only[r3];omega
  have:=this l 0 _ U;omega
 have gl:=i' fun W (hb:QB w W) k (hk:k<l.length)=>e' (hl.below hb) (k:=k) (by rw[Q3];exact hk);have aU:=i' fun x hx=>(Asc.lt U x hx).2;obtain⟨N,hN⟩:=Qu l.length;have bB:=i' hN;rw[hN]at gl bQ |-;obtain⟨i0,hi,bJ,bK,bL⟩:=x0 info3;have K:∀x,(sizeOf 105).run prog x=.ok 17 x:=fun x=>Qb
 have aK:∀x,(isAgg 105).run prog x=.ok true x:=fun x=>Qb
 obtain⟨ZF,aT⟩:=Qu (zerosL d l);obtain⟨TF,aS⟩:=Qu (tightL d l);rw[aT,aS];have aJ:=i' aT;have aI:=i' aS;clear hl U hN aT aS;go_enter func48,ntmps48;go_wp2_with (refine N0 Qh (.tmp 5) (.tmp 10) 105 Qh (w.heap.size+2) (Z5 (.slice L d O) (.slice H j I) (.slice none 0 0) (.slice none 0 0) [] []) (Z5 (.slice none 0 0) (.slice none 0 0) (.slice none 0 0) (.slice none 0 0) [] []) 105 ?sp ?sq (K _) ?sb rfl (uZ rfl rfl rfl rfl) ?_);case sp=>rfl
 case sq=>rw[VH];rfl
 case sb=>rw[AQ];exact Qs
 intro w1 aM aF aN;have P:w1.heap[w.heap.size]?=some (.cells #[.slice L d O,.slice H j I] 25):=G1 aF (Qs) Qf;have bC:QB w w1:=ZW (via (ZB _ _) (via (ZB _ _) (ZB _ _))) aF (fun b e=>by have:=D3 e;omega);have bR:w1.heap.size=w.heap.size+3:=by simpa using aN
 have aA:Hid (∃c,w1.heap[w.heap.size+1]?=some (.cells c 105)/\c.size=17):=i' ⟨_,G1 aF (Qs) Qf,rfl⟩;clear aF aN;go_wp2;go_loopw [13] (fun i wr=>∃k:Nat,k<=N/\i=.int .i64 k/\wr.heap[w.heap.size]?=some (.cells #[.slice L d O,.slice H j I] 25)/\Hid (∃c,wr.heap[w.heap.size+1]?=some (.cells c 105)/\c.size=17)/\Hid (∃zv tv,BasI (w.heap.size+3) (w.heap.size+2) (.slice L d O) (.slice H j I) (zerosL d (l.take k)) (tightL d (l.take k)) zv tv wr)/\QB w wr/\w.heap.size+3<=wr.heap.size) (fun i _=>N-(intOf i).toNat);case atStart=>exact⟨0,e6 _,rfl,P,aA.out,⟨.slice none 0 0,.slice none 0 0,aM,hM _ _ _ _,hM _ _ _ _,fun g h=>by cases h⟩,bC,Qa⟩
 case round=>
  clear P aM bC bR aA;obtain⟨k,hk,rfl,P,hr,aL,aE,bW⟩:=hrel;obtain⟨zv,tv,hB⟩:=aL.out;obtain⟨Bk,Bz,Bt,aO⟩:=hB;obtain⟨F,M,rfl⟩:=Z2 Bz;obtain⟨B,C,rfl⟩:=Z2 Bt;have C0:=bk2 P;have CB:=F' Bk;clear aL;by_cases aW:k<N
  .have bV:(k:Int)<(N:Int):=Qa
   obtain⟨b,o,rfl,bU,ck⟩:=gl.out wr aE k aW;obtain⟨x,hx⟩:∃x,l[k]?=some x:=⟨_,k2 (by rw[bB.out];exact aW)⟩;have bI:(ZI l).getD k 0=(x:Int):=by rw[h6,p5 hx];rfl
   rw[bI]at ck;have cC:=aU.out x (n2 hx);have aY:l.take (k+1)=l.take k++[x]:=by rw[w9,hx];rfl
   have aH:=i' (show zerosL d (l.take (k+1))=if x<d then zerosL d (l.take k)++[x]else zerosL d (l.take k)by rw[aY,UJ]);have aB:=i' (show tightL d (l.take (k+1))=if x<d then tightL d (l.take k)else tightL d (l.take k)++[x-d]by rw[aY,UK]);clear aY;have cD:(zerosL d (l.take k)).length<=13:=w7 (V0 _ _) Qk;have bX:(tightL d (l.take k)).length<=13:=by unfold tightL;rw[R'];exact w7 (V0 _ _) Qk
   generalize zerosL d (l.take k)=Z at*;generalize tightL d (l.take k)=T at*;have p:=i' Bz;have m:=i' Bt;have z:=i' Bk;have s:=i' aO;clear bI hx Bz Bt Bk aO;by_cases D:x<d
   .have bS:(x:Int)<(d:Int):=Qa
    have bZ:(x:Int)<5:=Qa
    have aC:x<5:=Qa
    have cz:=x5 z.out (uS (.slice L d O) (.slice H j I) (.slice F Z.length M) (.slice B T.length C) Z T x aC);have fz:=rY z.out (4+x);go_wp2_with (at_builtin;refine iE _ rfl _ _ 30 rfl (w.heap.size+3) 3 i0 (.int .i64 0) 1 8 underlying30 hi bJ bK bL rfl Qc _ _ _ rfl (p.out.alloc _) ⟨wr.heap.size,0,none⟩ 1 1 [.int .i64 (x:Int)] rfl rfl ?c1 ?c2 Qc ?c3 ?c4 ?c5 (wr.heap.size+1) ?c6 ?_);case c1=>exact P2 _ [.int .i64 (x:Int)] _ Qd
    case c2=>intro u hu;simp at hu;subst hu;rfl
    case c3=>unfold maxLen;omega
    case c4=>omega
    case c5=>simp;omega
    case c6=>simp
    intro g E w3 G f Y bE;have bP:=(G.lt g rfl).1;have r:=G1 f (Zz z.out _) (v8 p.out Qa);have M3:=G1 f (Zz P _) (v8 p.out Qa);have aP:=i' (kM (ZL m.out (ZB _ _)) f fun q Q R=>s.out q R.symm Q);have aX:Hid (∃c,w3.heap[w.heap.size+1]?=some (.cells c 105)/\c.size=17):=by obtain⟨c,h1,h2⟩:=hr.out;exact⟨c,G1 f (Zz h1 _) (v8 p.out Qa),h2⟩
    have aR:=i' (show ∀q,(Value.slice (some g) (Z.length+1) E).ownBlock=some q->(Value.slice B T.length C).ownBlock≠some q from fun q Q R=>by
     cases Q;rcases Y with h|h;·exact s.out g h R
     .have:=(m.out.lt g R).2;omega);have V:QB w w3:=ZW (via aE (ZB _ _)) f fun b e=>by have:=(p.out.lt b e).1;omega
    have bH:wr.heap.size+1<=w3.heap.size:=by have:=f.size;simpa using this
    have bM:=F' r;have bN:=x5 r (uS (.slice L d O) (.slice H j I) (.slice F Z.length M) (.slice B T.length C) Z T x aC);have bO:=rY r (4+x);have X:Hid (w3.ownsRow (w.heap.size+3) 3 1 (.slice (some g) (Z.length+1) E) (Z.length+1) ((ZI (Z++[x])).map (Value.int .i64))):=i' (by
     have e:(ZI (Z++[x])).map (Value.int .i64)=(ZI Z).map (Value.int .i64)++[.int .i64 (x:Int)]:=by simp[ZI]
     rw[e];exact G);have S:=i' r;clear CB cz fz r G f Y p m z s hr C0 P;go_wp2;go_roundw;case rel=>
     refine⟨k+1,Qa,Qj,ZC (ZC M3 Qg _) Qg _,?_,⟨.slice (some g) (Z.length+1) E,.slice B T.length C,?_,?_,?_,aR.out⟩,(V.setCell Qg _).setCell Qg _,Qk⟩;·obtain⟨c,h1,h2⟩:=aX.out;exact⟨c,ZC (ZC h1 Qg _) Qg _,h2⟩
     .rw[aH.out,aB.out,r4 D,r4 D];exact ZJ (ZJ S.out _ (UH ..)) _ (UF _ _ _ _ _ _ x aC)
     .rw[aH.out,r4 D,M1];exact EM (EM X.out Qg _) Qg _
     .rw[aB.out,r4 D];exact EM (EM aP.out Qg _) Qg _
    case measure=>exact Qv
   .obtain⟨y,hy⟩:=Qu (x-d);have bS:(d:Int)<=(x:Int):=Qa
    have bY:IntKind.i64.wrap ((x:Int)-(d:Int))=(y:Int):=by rw[j0 _ Qa];omega
    have cA:(y:Int)<8:=Qa
    have aD:y<8:=Qa
    rw[hy]at aB;have cz:=x5 z.out (IS (.slice L d O) (.slice H j I) (.slice F Z.length M) (.slice B T.length C) Z T y aD);have fz:=rY z.out (9+y);clear hy;go_wp2_with (at_builtin;refine iE _ rfl _ _ 30 rfl (w.heap.size+3) 3 i0 (.int .i64 0) 1 8 underlying30 hi bJ bK bL rfl Qc _ _ _ rfl (m.out.alloc _) ⟨wr.heap.size,0,none⟩ 1 1 [.int .i64 (y:Int)] rfl rfl ?c1 ?c2 Qc ?c3 ?c4 ?c5 (wr.heap.size+1) ?c6 ?_);case c1=>exact P2 _ [.int .i64 (y:Int)] _ Qd
    case c2=>intro u hu;simp at hu;subst hu;rfl
    case c3=>unfold maxLen;omega
    case c4=>omega
    case c5=>simp;omega
    case c6=>simp
    intro g E w3 G f Y bE;have bP:=(G.lt g rfl).1;have r:=G1 f (Zz z.out _) (v8 m.out Qa);have M3:=G1 f (Zz P _) (v8 m.out Qa);have aQ:=i' (kM (ZL p.out (ZB _ _)) f fun q Q R=>s.out q Q R.symm);have aX:Hid (∃c,w3.heap[w.heap.size+1]?=some (.cells c 105)/\c.size=17):=by obtain⟨c,h1,h2⟩:=hr.out;exact⟨c,G1 f (Zz h1 _) (v8 m.out Qa),h2⟩
    have aR:=i' (show ∀q,(Value.slice F Z.length M).ownBlock=some q->(Value.slice (some g) (T.length+1) E).ownBlock≠some q from fun q Q R=>by
     cases R;rcases Y with h|h;·exact s.out g Q h
     .have:=(p.out.lt g Q).2;omega);have V:QB w w3:=ZW (via aE (ZB _ _)) f fun b e=>by have:=(m.out.lt b e).1;omega
    have bH:wr.heap.size+1<=w3.heap.size:=by have:=f.size;simpa using this
    have bM:=F' r;have bN:=x5 r (IS (.slice L d O) (.slice H j I) (.slice F Z.length M) (.slice B T.length C) Z T y aD);have bO:=rY r (9+y);have X:Hid (w3.ownsRow (w.heap.size+3) 3 1 (.slice (some g) (T.length+1) E) (T.length+1) ((ZI (T++[y])).map (Value.int .i64))):=i' (by
     have e:(ZI (T++[y])).map (Value.int .i64)=(ZI T).map (Value.int .i64)++[.int .i64 (y:Int)]:=by simp[ZI]
     rw[e];exact G);have S:=i' r;clear CB cz fz r G f Y p m z s hr C0 P;go_wp2;go_roundw;case rel=>
     refine⟨k+1,Qa,Qj,ZC (ZC M3 Qg _) Qg _,?_,⟨.slice F Z.length M,.slice (some g) (T.length+1) E,?_,?_,?_,aR.out⟩,(V.setCell Qg _).setCell Qg _,Qk⟩;·obtain⟨c,h1,h2⟩:=aX.out;exact⟨c,ZC (ZC h1 Qg _) Qg _,h2⟩
     .rw[aH.out,aB.out,Zc9 D,Zc9 D];exact ZJ (ZJ S.out _ (UI ..)) _ (UG _ _ _ _ _ _ y aD)
     .rw[aH.out,Zc9 D];exact EM (EM aQ.out Qg _) Qg _
     .rw[aB.out,Zc9 D,M1];exact EM (EM X.out Qg _) Qg _
    case measure=>exact Qv
  .obtain rfl:k=N:=Qa
   have J:l.take k=l:=by rw[<-bB.out,x1]
   clear CB;rw[J,aJ.out,aI.out]at Bk;rw[J,aJ.out]at Bz;rw[J,aI.out]at Bt;have p:=i' Bz;have m:=i' Bt;clear aW J aO Bz Bt;obtain⟨cr,aA,bF⟩:=hr.out;go_wp2_with (first
    |(refine kY Qh (.tmp 5) 105 Qh (w.heap.size+2) (Z5 (.slice L d O) (.slice H j I) (.slice F ZF.length M) (.slice B TF.length C) ZF TF) 105 ?lp (aK _) (K _) ?lb ?_)|(refine N0 Qh (.tmp 4) (.tmp 46) 105 Qh (w.heap.size+1) (Z5 (.slice L d O) (.slice H j I) (.slice F ZF.length M) (.slice B TF.length C) ZF TF) cr.toList 105 ?sp ?sq (K _) ?sb ?sl (uZ rfl rfl rfl rfl) ?_));case lp=>rfl
   case lb=>exact Bk
   case sb=>rw[Array.toArray_toList];exact aA
   case sl=>rw[AA,bF];rfl
   intro w2 aV aG bT;have bD:QB w w2:=ZW aE aG fun b e=>by have:=D3 e;omega
   have bA:=kM p.out aG fun q Q R=>by have:=(p.out.lt q Q).1;have:=D3 R;omega
   have aZ:=kM m.out aG fun q Q R=>by have:=(m.out.lt q Q).1;have:=D3 R;omega
   have aQ:=i' bA;have aP:=i' aZ;clear Bk bA aZ p m aG aA bF C0 P hr;go_wp2;refine x3 (v:=.agg (Z5 (.slice L d O) (.slice H j I) (.slice F ZF.length M) (.slice B TF.length C) ZF TF).toArray) ?_ rfl ⟨⟨_,_,rfl,b2 (base:=w.heap.size) aQ.out (iL _ 3),b2 (base:=w.heap.size) aP.out (iL _ 3)⟩,bD⟩;have bG:(loadVar 105 ⟨w.heap.size+1,0,none⟩).run prog w2=.ok (.agg (Z5 (.slice L d O) (.slice H j I) (.slice F ZF.length M) (.slice B TF.length C) ZF TF).toArray) w2:=y5 (aK _) (K _) aV;exact fK rfl rfl bG
end Go.Proofs
