import Derived.Test.YtckjpehfchmmaaaGreatDoorMg4
import Derived.RangeFuncNested
import Derived.RangeFuncBound
import Derived.Shelf.RegionOpen
import Derived.OwnWalkIn
import Derived.LoopNIn
import Derived.LoopIn
import Derived.Deep.LoopGhost
set_option linter.all false
def Qo{P:Prop}(h:P:=by simp; omega):P:=h
def Qn{P:Prop}(h:P:=by grind):P:=h
def Qh{P:Prop}(h:P:=by with_reducible rfl):P:=h
def Qg{P:Prop}(h:P:=by dsimp only;omega):P:=h
set_option maxRecDepth 100000
set_option maxHeartbeats 16000000
namespace Go
def D4:=@World.putObj_heap_other
def P1:=@World.cell?_of_block
def BD:=@grownBy_putObj'
def B8:=@World.putObj_size
def D6:=@callsIn_wide
def B6:=@wpList_append_lies
def EX:=@RowKit.ownsRow_setCell_below
def q5:=@run_append_lies
def q6:=@World.news_of_block
def sZ:=@wpIn_wide
def jJ:=@List.map_set
def jK:=@Int.not_lt
def jL:=@List.nodup_nil
def jM:=@Nat.lt_of_le_of_lt
def jN:=@Nat.sub_self
def jO:=@List.push_toArray
def tN:=@leastOf_spec
def vL:=@World.alloc_heap_new
def vM:=@World.grownBy_alloc
def vN:=@Oper.wp_mono
def vO:=@Array.all_eq_true'
def qC:=@List.getElem?_take_of_lt
def qD:=@List.nodup_append
def IS:=@World.putObj_heap_same
def AU:=@List.range'_1_concat
def AV:=@List.setIfInBounds_toArray
def AW:=@List.eq_nil_iff_forall_not_mem
def AX:=@Array.toList_append
def AY:=@Option.isNone_iff_eq_none
def IT:=@List.exists_mem_of_ne_nil
def AZ:=@Array.size_setIfInBounds
def A0:=@decide_eq_false_iff_not
def BC:=@Array.length_toList
def q7:=@Array.replicate_succ
def jP:=@Array.replicate_zero
def M4:=@RowKit.Below.setCell
def o7:=@Bool.or_false
def r5:=@Bool.or_self
def s4:=@Bool.or_true
def RP:=@Int.le_of_mul_le_mul_left
def iX:=@List.all_cons
def W5:=@List.append_nil
def l5:=@List.contains_cons
def n7:=@List.contains_nil
def jQ:=@List.countP_eq_length
def jR:=@List.eq_of_mem_replicate
def aP:=@List.ext_getElem?
def q8:=@List.filter_append
def bE:=@List.getElem?_eq_none
def aQ:=@List.getElem?_range
def jS:=@List.getElem?_set_ne
def hK:=@List.length_append
def W6:=@List.length_filter_le
def w9:=@List.length_nil
def M7:=@List.length_replicate
def FK:=@List.mem_append_right
def eN:=@List.mem_cons_self
def y2:=@List.mem_singleton
def eO:=@List.nodup_cons
def y':=@Option.getD_some
end Go
namespace Go.Proofs
open Go.RowKit
variable {M:Nat->Prop} {A B W W':World}
structure Lie (M:Nat->Prop)(W W':World):Prop where
 size:W.heap.size<=W'.heap.size
 same:∀k,k<W.heap.size->¬M k->W'.heap[k]?=W.heap[k]?
def Lie.refl(M:Nat->Prop)(W:World):Lie M W W:=⟨r3 _,fun _ _ _=>rfl⟩
def Lie.trans{C:World} (h:Lie M A B)(k:Lie M B C):Lie M A C:=⟨l3 h.size k.size,fun i d f=>(k.same i (h8 d h.size) f).trans (h.same i d f)⟩
def Lie.mono{d:Nat->Prop} (h:Lie M A B)(hm:∀k,k<A.heap.size->M k->d k):Lie d A B:=⟨h.size,fun k f i=>h.same k f fun e=>i (hm k f e)⟩
def Lie.of_below(M:Nat->Prop)(h:QB W W'):Lie M W W':=⟨h.size,fun k d _=>h.block k d⟩
def Lie.of_grown{a:Option Nat} (h:W.grownBy W' a)(i:∀r,a=some r->M r):Lie M W W':=⟨h.size,fun k d f=>h.block k d fun e=>f (i k e.symm)⟩
def Lie.putObj(W:World)(l:Nat)(o:Obj)(h:M l):Lie M W (W.putObj l o):=.of_grown (BD W l o) fun r e=>by cases e;exact h
def Lie.setCell(W:World) {p:Addr} (u:Value)(h:M p.block):Lie M W (W.setCell p u):=⟨Qd,fun k f d=>A6 W p u k fun e=>d (e▸h)⟩
def Lie.obj(h:Lie M W W') {k:Nat} {o:Obj} (f:¬M k)(d:W.heap[k]?=some o):W'.heap[k]?=some o:=(h.same k (bP.1 d).1 f).trans d
def s3{α:Type} (d:α->Nat->Prop)(B:Nat)(J:List α->(Nat->Prop)->World->Prop):Prop:=∀s T W W' a,J s T W->W.grownBy W' a->(∀r,a=some r->B<=r/\¬T r/\∀x∈s,¬d x r)->J s T W'
def BE{α:Type} (F:Fence)(n:Nat)(P:Program)(g:Nat)(b:Array Value)(h:α->Array Value)(o:α->Nat->Prop)(M:Nat->Prop)(p:List α->α->World->Prop)(S s:List α->Prop)(N:Nat)(w:World):Prop:=∀(l:Nat)(J m:List α->(Nat->Prop)->World->Prop)(W:World),QB w W->w.heap.size<=l->l<W.heap.size->s3 o W.heap.size J->s3 o W.heap.size m->(∀d T x f,J d T f->(∀r,T r->W.heap.size<=r/\r<f.heap.size)->(∀y∈d++[x],∀r,o y r->W.heap.size<=r)->d.length<N->p d x f->YieldAt F (n-1) P l (h x) f fun e W'=>∃i,(∀r,i r->T r∨f.heap.size<=r)/\(∀r,i r->r<W'.heap.size)/\Lie (fun k=>M k∨T k∨k=l) f W'/\((e=.returned true/\J (d++[x]) i W')∨(e=.returned false/\m (d++[x]) i W')))->J [] (fun _=>False) W->CallsIn F n P g (#[.func (.yield l) #[] #[]]++b) W fun e W'=>(∃v,e=.returned v)/\((∃a T,S a/\J a T W')∨(∃d T,s d/\m d T W'))
def T4{α:Type} (M T:Nat->Prop)(I:List α->(Nat->Prop)->World->Prop)(f:Code->List α->(Nat->Prop)->World->Prop)(a:List α)(W:World):Exit->Act->World->Prop|.normal,_,W'=>∃d,(∀r,d r->T r∨W.heap.size<=r)/\(∀r,d r->r<W'.heap.size)/\Lie (fun k=>M k∨T k) W W'/\I a d W'|.ret,_,W'=>∃d,(∀r,d r->T r∨W.heap.size<=r)/\(∀r,d r->r<W'.heap.size)/\Lie (fun k=>M k∨T k) W W'/\f .ret a d W'|.exit id,_,W'=>∃d,(∀r,d r->T r∨W.heap.size<=r)/\(∀r,d r->r<W'.heap.size)/\Lie (fun k=>M k∨T k) W W'/\f (.exit id) a d W'|.goto t,_,W'=>∃d,(∀r,d r->T r∨W.heap.size<=r)/\(∀r,d r->r<W'.heap.size)/\Lie (fun k=>M k∨T k) W W'/\f (.goto t) a d W'|.panic _,_,_=>False|.outgrown,_,_=>False
variable {F:Fence} {n:Nat} {P:Program}
def qE{α:Type} {g:Operand} {ps:Array Tmp} {assign body:Code} {Q:Exit->Act->World->Prop} {a:Act} {w:World} (bF:F.round=none)(h1:1<=n) {gf:Nat} {lb:Array Value} (hg:a.eval g=.func (.func gf) #[] lb)(aR:F.fn gf)(eg:∀args w,(callFunc gf args).run P w=.ok (.enter gf args) w) {X:α->Array Value} {gv:α->Nat->Prop} {Ok:List α->α->World->Prop} {S Sp:List α->Prop} {N:Nat} (aQ:BE F (n-1) P gf lb X gv M Ok S Sp N w)(hM:∀k,M k->k<w.heap.size)(bE:∀x,(X x).size=ps.size)(I:List α->(Nat->Prop)->World->Prop)(Ix:Code->List α->(Nat->Prop)->World->Prop)(Ax:List α->(Nat->Prop)->α->Act->World->Prop)(hI:s3 gv w.heap.size I)(hIx:∀c,s3 gv w.heap.size (Ix c))(hAx:∀d T x a (W:World)(l:Nat)(o o':Obj),w.heap.size<=l->¬T l->(∀y∈d++[x],¬gv y l)->W.heap[l]?=some o->o.isCells=false->Ax d T x a W->Ax d T x a (W.putObj l o'))(h0:I [] (fun _=>False) w)(aB:∀(l:Nat)(d:List α)(T:Nat->Prop)(x:α)(W:World),I d T W->(∀r,T r->w.heap.size<=r/\r<W.heap.size)->d.length<N->Ok d x W->(∀y∈d++[x],∀r,gv y r->w.heap.size<=r)->assign.wpIn (F.inRound l) (n-1-1) P (Exit.then (fun a₁ W₁=>Lie (fun k=>M k∨T k) W W₁/\Ax d T x a₁ W₁) (fun _ _ _=>False)) {tmps:=(ps.zip (X x)).foldl (fun t (p,v)=>t.setIfInBounds p v) a.tmps,defers:=[]} W)(aJ:∀(l:Nat) (d:List α) (T:Nat->Prop) (x:α) (a₁:Act) (W:World),Ax d T x a₁ W->(∀r,T r->w.heap.size<=r/\r<W.heap.size)->d.length<N->body.wpIn (F.inRound l) (n-1-1) P (T4 M T I Ix (d++[x]) W) a₁ W)(aK:∀(D:Nat)(xs:List α)(T:Nat->Prop)(W:World),S xs->I xs T W->D=w.heap.size->W.heap[D]?=some (.deferred (some []))->Q .normal {a with defers:={target:=.collected D,args:=#[]}::a.defers} W)(aM:∀(D:Nat)(c:Code)(d:List α)(T:Nat->Prop)(W:World),Sp d->Ix c d T W->D=w.heap.size->W.heap[D]?=some (.deferred (some []))->c.wpIn F n P Q {a with defers:={target:=.collected D,args:=#[]}::a.defers} W):(Code.rangeFunc g ps assign body).wpIn F n P Q a w:=by
 refine wpIn_rangeFunc ?_;intro fn aX;rw[bF];obtain⟨i,m⟩:∃i:LoopState->Option Code->Loop,i=fun st pe=>{state:=st,pending:=pe,fn,tmps:=a.tmps,params:=ps,assign,body,defers:=w.heap.size}:=⟨_,rfl⟩;obtain⟨Z,aA⟩:=Qu ((w.alloc (.deferred (some []))).alloc (.loop (i .ready none)));have bH:Z.heap.size=w.heap.size+2:=by rw[<-aA];simp
 have aU:Z.heap[w.heap.size+1]?=some (.loop (i .ready none)):=by rw[<-aA];have:=vL (w.alloc (.deferred (some []))) (.loop (i .ready none));rwa [P3]at this
 have aT:Z.heap[w.heap.size]?=some (.deferred (some [])):=by rw[<-aA];exact(pM _ _ _ Qd).trans (vL w _)
 have aS:I [] (fun _=>False) Z:=by rw[<-aA];refine hI _ _ _ _ none (hI _ _ _ _ none h0 (vM w _ none) (fun r e=>by cases e)) (vM _ _ none) (fun r e=>by cases e)
 have aW:QB w Z:=by rw[<-aA];exact((m' _ w).alloc (r3 _) _).alloc Qd _
 refine⟨w.heap.size+1,[{target:=.collected w.heap.size,args:=#[]}],Z,{target:=.fn (.func gf) lb,args:=#[.func (.yield (w.heap.size+1)) #[] #[]]},Z,gf,#[.func (.yield (w.heap.size+1)) #[] #[]]++lb,Z,?_,?_,?_,?_,fun _=>h1,?_⟩;·rw[<-aA,m];exact run_enterLoop_outer _ _ _ _ _
 .simp only[resolve,hg];simp[go_sem]
 .intro f' aO;simp[Target.leads]at aO;subst aO;exact aR
 .simp[invoke,go_sem,eg]
 .have Y:∀{A B:World} {b:Option Nat} {k:Nat} {o:Obj},A.grownBy B b->(∀r,b=some r->Z.heap.size<=r)->k<w.heap.size+2->A.heap[k]?=some o->B.heap[k]?=some o:=fun H J hk ho=>by rw[H.block _ (bP.1 ho).1 (fun e=>by have:=J _ e.symm;omega),ho]
  have G:∀{K:List α->(Nat->Prop)->World->Prop},s3 gv w.heap.size K->∀{s T W} (o:Obj),K s T W->(∀r,T r->w.heap.size+2<=r)->(∀y∈s,∀r,gv y r->w.heap.size+2<=r)->K s T (W.putObj (w.heap.size+1) o):=fun hK s T W o hs L hv=>hK _ _ _ _ _ hs (BD W _ o) fun r e=>by cases e;exact⟨Qa,fun h=>by have:=L _ h;omega,fun y q h=>by have:=hv y q _ h;omega⟩
  refine(aQ (w.heap.size+1)
   (fun d T W=>I d T W/\W.heap[w.heap.size+1]?=some (.loop (i .ready none))/\W.heap[w.heap.size]?=some (.deferred (some []))/\(∀r,T r->w.heap.size+2<=r)/\(∀y∈d,∀r,gv y r->w.heap.size+2<=r))
   (fun d T W=>∃c,Ix c d T W/\W.heap[w.heap.size+1]?=some (.loop (i .done (some c)))/\W.heap[w.heap.size]?=some (.deferred (some []))/\(∀r,T r->w.heap.size+2<=r)/\(∀y∈d,∀r,gv y r->w.heap.size+2<=r)) Z aW Qa Qa
   (fun s T A B b hs H J=>⟨hI s T A B b hs.1 H (fun r e=>by have:=J r e;exact⟨Qa,this.2⟩),Y H (fun r e=>(J r e).1) Qa hs.2.1,Y H (fun r e=>(J r e).1) Qa hs.2.2.1,hs.2.2.2⟩)
   (fun s T A B b hs H J=>by obtain⟨c,hc,hl,hk,bG⟩:=hs;exact⟨c,hIx c s T A B b hc H (fun r e=>by have:=J r e;exact⟨Qa,this.2⟩),Y H (fun r e=>(J r e).1) Qa hl,Y H (fun r e=>(J r e).1) Qa hk,bG⟩) ?_ ⟨aS,aU,aT,fun r h=>h.elim,fun y q=>by cases q⟩).mono ?_
  .rintro d T x W ⟨hi,hl,hk,aE,bI⟩ hT aY aH aP;have q:=run_yield (P:=P) (args:=X x) hl (by rw[m];exact bE x);rw[m]at q;have aI:∀r,T r->w.heap.size<=r/\r<W.heap.size:=fun r h=>⟨by have:=aE r h;omega,(hT r h).2⟩;have u:∀y∈d++[x],∀r,gv y r->w.heap.size+2<=r:=fun y q r h=>by have:=aY y q r h;omega
   have aL:¬(M (w.heap.size+1)∨T (w.heap.size+1)):=by
    rintro(h|h);·have:=hM _ h;omega
    .have:=aE _ h;omega
   have aN:¬(M w.heap.size∨T w.heap.size):=by
    rintro(h|h);·have:=hM _ h;omega
    .have:=aE _ h;omega
   refine⟨fn,_,assign,body,q,roundIn_of_wpIn aX (wpIn_mono (aB _ d T x W hi aI aH aP (fun y q r h=>by have:=u y q r h;omega)) ?_)⟩;rintro e a2 W2 hp;cases e with
   |normal=>
    obtain⟨ko,hx⟩:=hp;have aF:=ko.obj aL hl;have aZ:=ko.obj aN hk;have bD:w.heap.size+1<W2.heap.size:=(bP.1 aF).1;have bB:(W2.putObj (w.heap.size+1) (.loop {i .ready none with state:=.busy})).heap[w.heap.size+1]?=some (.loop {i .ready none with state:=.busy}):=IS bD;have bA:(W2.putObj (w.heap.size+1) (.loop {i .ready none with state:=.busy})).heap[w.heap.size]?=some (.deferred (some [])):=(D4 Qa).trans aZ;refine⟨_,run_beginRound aF (by rw[m]),?_⟩;refine wpIn_mono (aJ _ d T x a2 _ (hAx d T x a2 _ _ _ _ Qa (fun h=>aL (.inr h)) (fun y q h=>by have:=u y q _ h;omega) aF rfl hx) (fun r h=>⟨(aI r h).1,by rw[B8];exact h8 (aI r h).2 ko.size⟩) aH) ?_;have st:Lie (fun k=>M k∨T k∨k=w.heap.size+1) W (W2.putObj (w.heap.size+1) (.loop {i .ready none with state:=.busy})):=(ko.mono (fun k _ h=>by rcases h with h|h;exact .inl h;exact .inr (.inl h))).trans (Lie.putObj _ _ _ (.inr (.inr rfl)));have aC:∀(f:Option Code) (j:World),Lie (fun k=>M k∨T k) (W2.putObj (w.heap.size+1) (.loop {i .ready none with state:=.busy})) j->(Instr.endRound (w.heap.size+1) f).run P j=.ok (.bool f.isNone) (j.putObj (w.heap.size+1) (.loop (i (if f.isNone then .ready else .done) f)))/\(j.putObj (w.heap.size+1) (.loop (i (if f.isNone then .ready else .done) f))).heap[w.heap.size+1]?=some (.loop (i (if f.isNone then .ready else .done) f))/\(j.putObj (w.heap.size+1) (.loop (i (if f.isNone then .ready else .done) f))).heap[w.heap.size]?=some (.deferred (some []))/\Lie (fun k=>M k∨T k∨k=w.heap.size+1) W (j.putObj (w.heap.size+1) (.loop (i (if f.isNone then .ready else .done) f))):=fun f j z=>by have E:=z.obj aL bB;have:=run_endRound (P:=P) f E;rw[m]at this |-;refine⟨this,IS (bP.1 E).1,(D4 Qa).trans (z.obj aN bA),?_⟩;rw[m]at st;rw[m]at z;exact(st.trans (z.mono (fun k _ h=>by rcases h with h|h;exact .inl h;exact .inr (.inl h)))).trans (Lie.putObj _ _ _ (.inr (.inr rfl)))
    have aG:W.heap.size<=(W2.putObj (w.heap.size+1) (.loop {i .ready none with state:=.busy})).heap.size:=by rw[B8];exact ko.size
    have aD:∀O:Nat->Prop,(∀r,O r->T r∨(W2.putObj (w.heap.size+1) (.loop {i .ready none with state:=.busy})).heap.size<=r)->∀r,O r->w.heap.size+2<=r:=fun O h r J=>by
     rcases h r J with h|h;·exact aE r h
     .have:=ko.size;rw[B8]at h;have:Z.heap.size<=W.heap.size∨True:=.inr trivial;have:=(bP.1 aF).1;omega
    rintro e a3 j hp;cases e with
    |normal=>obtain⟨O,C,t2,z,R⟩:=hp;obtain⟨J,E,U,V⟩:=aC none j z;have L:=aD O C;exact⟨_,_,J,O,fun r h=>(C r h).imp id (l3 aG),fun r h=>by rw[B8];exact t2 r h,V,.inl ⟨rfl,G hI _ R L u,E,U,L,u⟩⟩|ret=>obtain⟨O,C,t2,z,R⟩:=hp;obtain⟨J,E,U,V⟩:=aC (some .ret) j z;have L:=aD O C;exact⟨_,_,J,O,fun r h=>(C r h).imp id (l3 aG),fun r h=>by rw[B8];exact t2 r h,V,.inr ⟨rfl,.ret,G (hIx _) _ R L u,E,U,L,u⟩⟩|exit id=>obtain⟨O,C,t2,z,R⟩:=hp;obtain⟨J,E,U,V⟩:=aC (some (.exit id)) j z;have L:=aD O C;exact⟨_,_,J,O,fun r h=>(C r h).imp (fun h=>h) (l3 aG),fun r h=>by rw[B8];exact t2 r h,V,.inr ⟨rfl,.exit id,G (hIx _) _ R L u,E,U,L,u⟩⟩|goto t=>obtain⟨O,C,t2,z,R⟩:=hp;obtain⟨J,E,U,V⟩:=aC (some (.goto t)) j z;have L:=aD O C;exact⟨_,_,J,O,fun r h=>(C r h).imp id (l3 aG),fun r h=>by rw[B8];exact t2 r h,V,.inr ⟨rfl,.goto t,G (hIx _) _ R L u,E,U,L,u⟩⟩|panic ch=>exact hp.elim|outgrown=>exact hp.elim
   |_=>exact hp.elim
  .rintro e W2 ⟨⟨v,rfl⟩,(⟨xs,T,hS,hi,hl,hk,L,hv⟩|⟨d,T,aV,c,hi,hl,hk,L,hv⟩)⟩;·exact⟨none,_,by have:=run_endLoop (P:=P) hl (by rw[m];simp);rw[m]at this;exact this,aK _ xs T _ hS (G hI _ hi L hv) rfl ((D4 Qa).trans hk)⟩
   .exact⟨some c,_,by have:=run_endLoop (P:=P) hl (by rw[m];simp);rw[m]at this;exact this,aM _ c d T _ aV (G (hIx c) _ hi L hv) rfl ((D4 Qa).trans hk)⟩
section
variable {ops:Array Oper} {md:Region.Mode} {C:World->Prop}
end
variable {l:List Nat} {k x j a q:Nat} {W W':World}
attribute [local go_sem] Oper.semAt_some structure ChV where
 b:Nat
 l:List Nat
def W8(x:ChV):Array Value:=#[.slice (some x.b) x.l.length x.l.length]
def natZ(l:List Nat):List Int:=l.map fun(a:Nat)=>(a:Int)
def gvN{α:Type} (_:α)(_:Nat):Prop:=False
def N3(l:List Nat):(natZ l).length=l.length:=by simp[natZ]
def p5{x:Nat} (h:l[k]?=some x):(natZ l)[k]?=some (x:Int):=by simp[natZ,h]
def IU(l:List Nat)(k x:Nat):(natZ l).set k (x:Int)=natZ (l.set k x):=by simp[natZ,jJ]
def ZK.grown{T:TypeId} {B:Nat} {l:List Int} (h:ZK T W B l) {M:Nat->Prop} (d:Lie M W W')(hB:¬M B):ZK T W' B l:=d.obj hB h
def IV(b:QB W W'):W.grownBy W' none:=⟨b.os,b.tape,b.output,b.size,fun k d _=>b.block k d⟩
def IW(W:World) (B o:Nat) (v:Value):W.grownBy (W.setCell ⟨B,o,none⟩ v) (some B):=⟨rfl,rfl,rfl,Qd,fun k f d=>A6 W _ v k fun e=>d (by rw[e])⟩
structure ChI (n k:Nat)(M:Nat->Prop)(w:World)(J:List ChV->(Nat->Prop)->World->Prop)(W0 B B1 B2:Nat)(i:Nat)(l:List Nat)(wr:World)(pre:List ChV)(T:Nat->Prop):Prop where
 plen:pre.length=i
 pre_:pre.map ChV.l=(cmb 0 n k).take i
 now:(cmb 0 n k)[i]?=some l
 mem:ZK 3 wr B (natZ l)
 jj:J pre T wr
 tt:∀r,T r->W0<=r/\r<wr.heap.size/\r≠B
 c1:wr.heap[B1]?=some (.cells #[.int .i64 k] 3 (0,0))
 c2:wr.heap[B2]?=some (.cells #[.int .i64 n] 3 (0,0))
 sz:W0<=B/\B<wr.heap.size
def D7(k j:Nat):List Int:=natZ (List.range' 0 j)++List.replicate (k-j) 0
def T5{j:Nat} (h:j<k):(D7 k j).set j (j:Int)=D7 k (j+1):=by unfold D7;rw[iA _ _ (by simp[natZ]),AU,show k-j=(k-(j+1))+1 by omega,l8];simp[natZ]
def T6(h:j<=k):(D7 k j).length=k:=by simp[D7,natZ];omega
def T7(k:Nat):D7 k k=natZ (List.range' 0 k):=by simp[D7]
def fR(l:List Nat) (a x q:Nat):List Nat:=l.take a++List.range' (x+1) (q-a)++l.drop q
def T8(h:a<l.length):l.set a (x+1)=fR l a x (a+1):=by unfold fR;rw[show a+1-a=1 by omega];simp[List.set_eq_take_append_cons_drop,h]
def UA(h:a<q)(b:q<l.length):(fR l a x q).set q (x+(q-a)+1)=fR l a x (q+1):=by unfold fR;rw[Ap,iA _ _ Qk,y5,iA _ _ Qk,List.length_range',show q-min a l.length-(q-a)=0 by omega,iJ b,List.set_cons_zero,show q+1-a=(q-a)+1 by omega,AU];simp;omega
def UB(h:a<q)(b:q<=l.length):(fR l a x q).length=l.length:=by simp[fR];omega
def UC(h:a<q)(b:q<=l.length):(fR l a x q)[q-1]?=some (x+(q-a)):=by unfold fR;rw[Ap,hS Qk,y5,aL Qk];rw[List.getElem?_range' Qa];congr 1;omega
def UD:fR l a x l.length=l.take a++List.range' (x+1) (l.length-a):=by simp[fR]
variable {w:World} {b T:Nat} {cs:List Value}
def boolL(n:Nat)(z:List Nat):List Value:=(List.range n).map fun i=>.bool (decide (i∈z))
def Z3(i d h f:Value)(z t:List Nat):List Value:=i::d::h::f::(boolL 5 z++boolL 8 t)
def nJ(n k:Nat)(z:List Nat)(h:k<n):(boolL n z)[k]?=some (.bool (decide (k∈z))):=by simp[boolL,aQ h]
def nL(m d i f:Value)(z t:List Nat)(k:Nat)(h:k<5):(Z3 m d i f z t)[4+k]?=some (.bool (decide (k∈z))):=by rw[aD];show (boolL 5 z++boolL 8 t)[k]?=_;rw[aL (by simp[boolL];exact h),nJ 5 k z h]
def IX(c d i f:Value)(z t:List Nat)(k:Nat)(h:k<8):(Z3 c d i f z t)[9+k]?=some (.bool (decide (k∈t))):=by rw[aD,show k+9=(k+5)+4 by omega];show (boolL 5 z++boolL 8 t)[k+5]?=_;rw[hS (by simp[boolL]),show k+5-(boolL 5 z).length=k by simp[boolL],nJ 8 k t h]
def BF(n x:Nat)(z:List Nat)(h:x<n):(boolL n z).set x (.bool true)=boolL n (z++[x]):=by
 apply aP;intro j;rw[aT];by_cases d:j<n
 .rw[nJ n j _ d,nJ n j _ d];by_cases e:x=j;·subst e;simp[boolL,h]
  .rw[q' e];have:¬j=x:=fun h=>e h.symm;simp[this]
 .have f:(boolL n z)[j]?=none:=bE (by simp[boolL];omega);have i:(boolL n (z++[x]))[j]?=none:=bE (by simp[boolL];omega);rw[f,i,q' Qa]
def UE(c d i f:Value) (z t:List Nat) (x:Nat) (h:x<5):(Z3 c d i f z t).toArray.setIfInBounds (4+x) (.bool true)=(Z3 c d i f (z++[x]) t).toArray:=by rw[AV,aD 4 x];congr 1;show c::d::i::f::(boolL 5 z++boolL 8 t).set x (.bool true)=_;rw[List.set_append_left _ _ (by simp[boolL];exact h),BF 5 x z h];rfl
def UF(c d i f:Value) (z t:List Nat) (x:Nat) (h:x<8):(Z3 c d i f z t).toArray.setIfInBounds (9+x) (.bool true)=(Z3 c d i f z (t++[x])).toArray:=by rw[AV,aD 9 x,show x+9=(x+5)+4 by omega];congr 1;show c::d::i::f::(boolL 5 z++boolL 8 t).set (x+5) (.bool true)=_;rw[iA _ _ (by simp[boolL]),show x+5-(boolL 5 z).length=x by simp[boolL],BF 8 x t h];rfl
def UG(c d h f v:Value)(z t:List Nat):(Z3 c d h f z t).toArray.setIfInBounds 2 v=(Z3 c d v f z t).toArray:=by simp[Z3]
def UH(c d f h v:Value)(z t:List Nat):(Z3 c d f h z t).toArray.setIfInBounds 3 v=(Z3 c d f v z t).toArray:=by simp[Z3]
def C4(h:w.heap[b]?=some (.cells cs.toArray T)) {k:Nat} {v:Value} (d:cs[k]?=some v):w.cell? ⟨b,k,none⟩=some v:=by unfold World.cell?;simp only[h];simpa using d
def sN(h:w.heap[b]?=some (.cells cs.toArray T))(k:Nat):w.frozen? ⟨b,k,none⟩=false:=by unfold World.frozen?;simp only[h];simp
def GH{c d i f:Value} {z t:List Nat} (h:w.heap[b]?=some (.cells (Z3 c d i f z t).toArray 114 (0,0))):w.cell? b=some c/\w.cell? ⟨b,1,none⟩=some d/\w.cell? ⟨b,2,none⟩=some i/\w.cell? ⟨b,3,none⟩=some f/\w.frozen? ⟨b,2,none⟩=false/\w.frozen? ⟨b,3,none⟩=false/\b<w.heap.size:=⟨C4 h rfl,C4 h rfl,C4 h rfl,C4 h rfl,sN h 2,sN h 3,ZE h⟩
def UI(c:Nat)(l:List Nat)(x:Nat):zerosL c (l++[x])=if x<c then zerosL c l++[x]else zerosL c l:=by unfold zerosL;rw[q8];by_cases h:x<c<;>simp[h]
def UJ(c:Nat)(l:List Nat)(x:Nat):tightL c (l++[x])=if x<c then tightL c l else tightL c l++[x-c]:=by
 unfold tightL;rw[q8];by_cases h:x<c
 .have:¬c<=x:=Qa
  simp[h,this]
 .have:c<=x:=Qa
  simp[h,this]
structure BasI (base bb:Nat)(pv ev:Value)(z t:List Nat)(zv tv:Value)(wr:World):Prop where
 blk:wr.heap[bb]?=some (.cells (Z3 pv ev zv tv z t).toArray 114 (0,0))
 oz:wr.ownsRow base 3 1 zv z.length ((natZ z).map (Value.int .i64))
 ot:wr.ownsRow base 3 1 tv t.length ((natZ t).map (Value.int .i64))
 ap:∀g,zv.ownBlock=some g->tv.ownBlock≠some g
variable {w:World} {base c:Nat} {v:Value} {xs:List IR}
structure RowsOwn (wr:World)(base:Nat)(v:Value)(xs:List IR):Prop where
 own:wr.ownsRow base 28 1 v xs.length (xs.map fun x=>.slice x.A x.l.length x.c)
 row:∀x∈xs,At 1 Zc wr x.A x.l/\∀g,x.A=some g->base<=g.block/\g.block<wr.heap.size/\some g.block≠v.ownBlock
def RowsOwn.nil(wr:World)(base:Nat):RowsOwn wr base (.slice none 0 0) []:=⟨hG _ _ _ _,fun x h=>by cases h⟩
def RowsOwn.below{w':World} (h:RowsOwn w base v xs)(hb:QB w w'):RowsOwn w' base v xs:=⟨ZL h.own hb,fun x d=>⟨(h.row x d).1.below hb,fun g f=>by have:=(h.row x d).2 g f;exact⟨this.1,h8 this.2.1 hb.size,this.2.2⟩⟩⟩
def RowsOwn.rowsAt{A:Option Addr} {n:Nat} (h:RowsOwn w base (.slice A n c) xs):h3 w A xs:=by refine⟨fun k x f=>?_,fun x f=>(h.row x f).1⟩;have i:=h.own;obtain⟨r,s,e⟩:=ZV i;cases e;obtain⟨g,p,-,m,o⟩:=X0 i (k:=k) (u:=.slice x.A x.l.length x.c) (by rw[k2,f];rfl);refine⟨g,0,p,m,fun j v d=>?_⟩;cases j with|zero=>simp[IR.cs]at d;subst d;simpa using o|succ j=>simp[IR.cs]at d
def RowsOwn.push{p I:World} (h:RowsOwn w base v xs)(E:QB w p) {x:IR} {G:Addr} (r:x.A=some G)(m:At 1 Zc p x.A x.l)(J:base<=G.block)(s:G.block<p.heap.size)(z:some G.block≠v.ownBlock)(d:p.grownBy I v.ownBlock) {g cap:Nat} (R:I.ownsRow base 28 1 (.slice (some g) (xs.length+1) cap) (xs.length+1) ((xs.map fun x=>Value.slice x.A x.l.length x.c)++[.slice x.A x.l.length x.c])) (L:v.ownBlock=some g∨g=p.heap.size):RowsOwn I base (.slice (some g) (xs.length+1) cap) (xs++[x]):=by
 have D:∀k,k<p.heap.size->some k≠v.ownBlock->some k≠some g:=fun k V K e=>by
  rcases L with h|h;·exact K (e.trans h.symm)
  .cases e;omega
 have f:∀(A:Option Addr)(l:List Int),At 1 Zc p A l->(∀g,A=some g->some g.block≠v.ownBlock)->At 1 Zc I A l:=fun A l m Q k y i=>by obtain⟨b,o,r,t,O⟩:=m k y i;refine⟨b,o,r,h8 t d.size,fun j u S=>?_⟩;rw[<-O j u S];exact P1 (a:=⟨b,o+k*1+j,none⟩) (d.block b t (Q _ r))
 refine⟨?_,fun y i=>?_⟩;·rw[hK,b4];exact R
 .rcases s0.1 i with i|i;·obtain⟨U,N⟩:=h.row y i;refine⟨f _ _ (U.below E) fun g d=>(N g d).2.2,fun a H=>?_⟩;obtain⟨Z,q2,q3⟩:=N a H;have C:=h8 q2 E.size;exact⟨Z,h8 C d.size,D _ C q3⟩
  .rw[y2]at i;subst i;refine⟨f _ _ m fun g d=>?_,fun a H=>?_⟩;·rw[r]at d;cases d;exact z
   .rw[r]at H;cases H;exact⟨J,h8 s d.size,D _ s z⟩
def vP(es:List Ex)(z t:List Nat):∀(d:List Int)(k:Nat)(w:Int),proofRows es z t k (d++[w])=proofRows es z t k d++if k+d.length∈z then []else [proofRow es t (k+d.length) w]
 |[],k,w=>by simp only[Q3,proofRows,w9,sW]|v::d,k,w=>by
  have:=vP es z t d (k+1) w;rw[show k+1+d.length=k+(v::d).length by simp only[L'];omega]at this;simp only[M3,proofRows];split;·exact this
  .rw[this];rfl
def E8(es:List Ex)(t:List Nat)(c j:Nat):List Int:=1::(t.take j).map fun i=>-((es.getD i default).1.getD c 0)
def BG{es:List Ex} {t:List Nat} {j i:Nat} (h:t[j]?=some i):E8 es t c (j+1)=E8 es t c j++[-((es.getD i default).1.getD c 0)]:=by unfold E8;rw[r4,h];simp
def BH(es:List Ex)(t:List Nat)(c:Nat)(w:Int):E8 es t c t.length++[w]=proofRow es t c w:=by simp[E8,proofRow]
def Tryz.info31:(Tryz.prog.info? 28).map (fun i=>(i.zero,i.size,i.bytes))=some (some (.slice none 0 0),1,24):=Qb
section
variable {P:Program}
def spG(d:Array Oper)(e:List Nat):Bool:=e.all fun j=>match d[j]? with|some _=>true|none=>false
def BI{Q:Exit->Act->World->Prop} {a0:Act} {w:World} {l:List Oper} (w0:World)(C:World->Prop)(sp:List Nat)(K:Nat->Gh->Value)(J:(Nat->Bool)->(Nat->Gh)->World->Prop)(z:(Nat->Gh)->Act)(hB:bL l.toArray=true)(hB':∀g,bL (mixL sp K g 0 l).toArray=true)(hS:Region.noSelect l.toArray=true)(hN:spG l.toArray sp=true)(hC0:C w)(hCs:∀x R,C x->QB x R->C R)(hCw:∀x,C x->QB w0 x)(h0:∀L,(∀j∈sp,L j=false)->J L (fun _=>Gh.zero) w)(hst:∀L L' g x R,(∀j∈sp,L' j=L j)->J L g x->QB x R->J L' g R)(hq:∀g u,C u->(∀(x:Grew u)(b o:Nat),b<u.heap.size->x.val.cell? ⟨b,o,none⟩=u.cell? ⟨b,o,none⟩)->Hid (∀x:Grew u,QB w0 x.val)->Hid (∀x:Grew u,C x.val)->wpQuiet P (mixL sp K g 0 l).toArray (fun w'=>∃x:Grew u,w'=x.val) (fun a'=>a'=z g) (mixL sp K g 0 l) a0)(hind:∀j∈sp,∀g h,bN (bS l.toArray j 0 l []) 0 (z g).tmps.toList=bN (bS l.toArray j 0 l []) 0 (z (upd g j h)).tmps.toList)(hwa:∀g,∀j∈sp,∀o,l.toArray[j]?=some o->Region.wanted o (yielded l.toArray (z g).tmps)=true)(hsp:∀j∈sp,∀o,l[j]?=some o->∀(L:Nat->Bool)(g:Nat->Gh)(x:World),J L g x->C x->QB w0 x->L j=false->(∀e∈o.after,Region.binds .any e=true->L e.on=true)->(∀(i:Nat)(o:Oper),l[i]?=some o->L i=true->∀e∈o.after,Region.binds .any e=true->L e.on=true)->bO P (fun v R=>C R/\((o.dst=none/\J (bV L j) g R)∨∃h,v=K j h/\J (bV L j) (upd g j h) R)) ((execOp (z g).eval o).run P x))(hend:∀g x,J (fun _=>true) g x->C x->QB w0 x->Q .normal (z g) x):wpAny P .any l.toArray Q l.toArray.size (Array.replicate l.toArray.size false) a0 {w with drawn:=w.drawn+1}:=by
 have H:=IF hB;have H':=fun g=>IF (hB' g);have aA:=zJ hS;have N:∀g (j:Nat),(mixL sp K g 0 l).toArray[j]?=(l.toArray[j]?).map fun o=>if sp.contains j then yieldsC (K j (g j)) o else o:=fun g j=>by have:=G2 sp K g l 0 j;simpa using this
 have aI:∀(g:Nat->Gh)(j:Nat)(o:Oper),(if sp.contains j=true then yieldsC (K j (g j)) o else o).dst=o.dst:=fun g j o=>by split<;>rfl
 have bI:∀(g:Nat->Gh)(t:Array Value)(k:Nat),yielded (mixL sp K g 0 l).toArray t k=yielded l.toArray t k:=fun g t k=>by unfold yielded;rw[N];cases l.toArray[k]? with
  |none=>rfl|some o=>simp only[hD,jB,aI]
 have aX:∀(g:Nat->Gh)(o:Oper)(t:Array Value),Region.wanted o (yielded (mixL sp K g 0 l).toArray t)=Region.wanted o (yielded l.toArray t):=fun g o t=>by have:yielded (mixL sp K g 0 l).toArray t=yielded l.toArray t:=funext (bI g t);rw[this]
 have aS:∀(g:Nat->Gh)(j:Nat)(o:Oper) cs b,(mixL sp K g 0 l).toArray[j]?=some o->o.op≠.select cs b:=fun g j o cs b p=>by rw[N]at p;cases r:l.toArray[j]? with
  |none=>rw[r]at p;cases p|some o'=>
   rw[r]at p;simp only[hD,nK]at p;subst p;split;·simp[yieldsC]
   .exact aA j o' cs b r
 have O:=fun g u hu=>IG (H' g) (aS g) (mixL sp K g 0 l) 0 a0 (fun j=>Qd) (hq g u hu (fun x=>x.cell) (fun x=>hCw _ (hCs _ _ hu x.ok)) (fun x=>hCs _ _ hu x.ok));have S:∀g,a0.tmps.size=(z g).tmps.size:=fun g=>(O g w hC0).2.1;have aN:∀g,a0.defers=(z g).defers:=fun g=>(O g w hC0).2.2.1;have bF:∀(g:Nat->Gh)(s:Nat),(∀(j:Nat)(V:Oper),l.toArray[j]?=some V->V.dst≠some s)->a0.tmps[s]?=(z g).tmps[s]?:=fun g s Y=>(O g w hC0).2.2.2 s fun j V _ r X=>by rw[N]at r;cases aP:l.toArray[j]? with|none=>rw[aP]at r;cases r|some o'=>rw[aP]at r;simp only[hD,nK]at r;exact Y j o' aP (by rw[<-X,<-r];exact(aI g j o').symm)
 have aF:∀(g:Nat->Gh)(i:Nat)(o:Oper),i∉sp->l.toArray[i]?=some o->∀u,C u->∃v,YieldsIn P l.toArray (above u) o v (z g)/\∀s,o.dst=some s->s<(z g).tmps.size->(z g).tmps[s]?=some v:=by
  intro g i o hi p u hu;have hc:sp.contains i=false:=by simpa using hi
  have E:(mixL sp K g 0 l).toArray[i]?=some o:=by rw[N,p];simp[hi]
  obtain⟨v,hy,hv⟩:=(O g u hu).1 i o (e6 _) E;refine⟨v,?_,hv⟩;rw[TH];unfold YieldsIn at*;rwa [aX]at hy
 have aV:∀(g:Nat->Gh)(j:Nat)(o:Oper)(d:Nat),j∈sp->l.toArray[j]?=some o->o.dst=some d->d<(z g).tmps.size->(z g).tmps[d]?=some (K j (g j)):=by
  intro g j o d r p X y;have hc:sp.contains j=true:=by simpa using r
  have E:(mixL sp K g 0 l).toArray[j]?=some (yieldsC (K j (g j)) o):=by rw[N,p];simp[r]
  obtain⟨v,hy,hv⟩:=(O g w hC0).1 j _ (e6 _) E;have:=hv d X y;rw[this];rcases hy with⟨_,h2⟩|⟨h1,_⟩
  .have h3:=h2 w ⟨⟨w,m' _ _⟩,rfl⟩;unfold Oper.quietAt at h3;have h4:(execOp (z g).eval (yieldsC (K j (g j)) o)).run P w=.ok (.value (K j (g j))) w:=by unfold execOp yieldsC;rfl
   rw[h4]at h3;simp only[Oper.quietUpon]at h3;rw[h3.2]
  .rw[aX g,show Region.wanted (yieldsC (K j (g j)) o) (yielded l.toArray (z g).tmps)=Region.wanted o (yielded l.toArray (z g).tmps)from rfl,hwa g j r o p]at h1;cases h1
 have aM:∀(L:Nat->Bool),(∀(i:Nat)(o:Oper),l.toArray[i]?=some o->L i=true->∀e∈o.after,Region.binds .any e=true->L e.on=true)->∀j,L j=false->∀d∈bS l.toArray j 0 l [],∃(i:Nat)(o:Oper),l.toArray[i]?=some o/\o.dst=some d/\L i=false:=by
  intro L Z j r;refine IL (G:=fun d=>∃(i:Nat) (o:Oper),l.toArray[i]?=some o/\o.dst=some d/\L i=false) ?_ l 0 [] (fun k=>Qd) (fun d X=>by simp at X);intro i o d p X bE;refine⟨i,o,p,X,?_⟩;rcases bE with rfl|⟨s,Y,i',o',E,bB,hL⟩;·exact r
  .obtain⟨_,e,he,hb,aE⟩:=H.look i o s i' o' p Y E bB;cases aZ:L i with
   |false=>rfl|true=>have:=Z i o p aZ e he hb;rw[aE,hL]at this;cases this
 have aJ:∀(m:Array Bool)(a:Act)(x:World),m.size=l.toArray.size->FJ l.toArray C J z m a x->Region.ready .any l.toArray m=[]->Q .normal a x:=by
  rintro m a x hz ⟨hb,-,g,D,hJ⟩ hr;have hu:=TE H hz hr;rw[TG D hu];have:(fun j=>m.getD j true)=fun _=>true:=funext fun j=>by
   by_cases r:j<l.toArray.size;·exact hu j r
   .simp[eK (show m.size<=j by omega)]
  rw[this]at hJ;exact hend g x hJ hb (hCw _ hb)
 have aT:∀(m:Array Bool)(a:Act)(x:World)(i:Nat),i∈Region.ready .any l.toArray m->FJ l.toArray C J z m a x->wpOp P l.toArray Q i (fun a' R=>FJ l.toArray C J z (m.setIfInBounds i true) a' R) a x:=by
  rintro m a x i hi ⟨hb,Z,g,D,hJ⟩;obtain⟨U,o,p,aG⟩:=fI.1 hi;have aQ:=TC H D p hi;have aH:∀(i':Nat)(o':Oper),l.toArray[i']?=some o'->(m.setIfInBounds i true).getD i' true=true->∀e∈o'.after,Region.binds .any e=true->(m.setIfInBounds i true).getD e.on true=true:=by
   intro i' o' E hL e he aB;have bJ:m.getD e.on true=true:=by
    by_cases aU:i=i';·subst aU;obtain rfl:o=o':=D3 (p.symm.trans E);exact mD (aG e he aB)
    .rw[gD true aU]at hL;exact Z i' o' E hL e he aB
   by_cases aE:i=e.on;·rw[aE,p9]
   .rw[gD true aE];exact bJ
  by_cases I:i∈sp
  .have X:=hsp i I o (by simpa using p) _ g x hJ hb (hCw _ hb) U (fun e he aB=>mD (aG e he aB)) (fun i' o' E=>Z i' o' (by simpa using E));rw[<-AK (aA i o · · p) aQ]at X;unfold wpOp;simp only[p];have bG:Region.wanted o (yielded l.toArray a.tmps)=true:=by rw[AL aQ];exact hwa g i I o p
   rw[Zc9 bG];refine .inl (TJ X ?_);rintro v R ⟨bA,hK⟩;refine⟨bA,aH,?_⟩;rw[TK];rcases hK with⟨bD,aK⟩|⟨h,rfl,aK⟩;·exact⟨g,IK H D p (fun s Y=>by rw[bD]at Y;cases Y),aK⟩
   .refine⟨upd g i h,⟨by rw[nG];exact D.1.trans ((S g).symm.trans (S _)),by rw[p7];exact D.2.1.trans ((aN g).symm.trans (aN _)),fun s Y=>?_⟩,aK⟩;by_cases aD:o.dst=some s
    .rw[aD];by_cases y:s<(z (upd g i h)).tmps.size;·rw[p8 (by rw[D.1,<-S g,S (upd g i h)];exact y),aV _ i o s I p aD y];unfold upd;rw[Zc9 rfl]
     .rw[AN (by rw[D.1,<-S g,S (upd g i h)];exact y),eK Qa]
    .rw[nF aD];have aW:∀(j:Nat)(V:Oper),l.toArray[j]?=some V->V.dst=some s->m.getD j true=true:=fun j V r aC=>by
      have aO:i≠j:=by rintro rfl;obtain rfl:o=V:=D3 (p.symm.trans r);exact aD aC
      have:=Y j V r aC;rwa [gD true aO]at this
     rw[D.2.2 s aW];refine TI (hind i I g h) fun hc=>?_;obtain⟨j,V,r,aC,hL⟩:=aM (fun j=>m.getD j true) Z i U s hc;have:=aW j V r aC;rw[this]at hL;cases hL
  .obtain⟨v,hy,hv⟩:=aF g i o I p x hb;have bH:=AM (aA i o · · p) (fun s Y=>(aQ s Y).symm) hy;refine TD p bH (m' _ _) fun R aY=>⟨hCs _ _ hb aY,aH,g,IK H D p hv,?_⟩;refine hst _ _ g x R (fun j r=>?_) hJ aY;have aO:i≠j:=by rintro rfl;exact I r
   rw[gD true aO]
 have aR:∀(f:Nat)(m:Array Bool)(a:Act)(x:World),m.size=l.toArray.size->tM l.toArray.size m<=f->FJ l.toArray C J z m a x->wpAny P .any l.toArray Q f m a x:=by intro f;induction f with
  |zero=>
   intro m a x hz hf h;have hr:Region.ready .any l.toArray m=[]:=by rw[AW];intro i hi;obtain⟨U,o,p,_⟩:=fI.1 hi;have:=IJ (n:=l.toArray.size) (iP p) U;omega
   exact⟨hr,aJ m a x hz h hr⟩|succ f ih=>intro m a x hz hf h;refine⟨fun hr=>aJ m a x hz h hr,fun i hi=>?_⟩;obtain⟨U,o,p,_⟩:=fI.1 hi;have hl:=IJ (n:=l.toArray.size) (iP p) U;exact wpOp_mono (fun a' R h'=>ih _ a' R (by simpa using hz) Qa h') (aT m a x i hi h)
 have aL:∀j,j<l.length->(Array.replicate l.toArray.size false).getD j true=false:=fun j r=>by simp[r]
 refine aR _ _ _ _ Qd ?_ ⟨hCs _ _ hC0 (m' _ w).drew,fun i o p hL=>?_,fun _=>Gh.zero,⟨S _,aN _,fun s Y=>?_⟩,?_⟩;·unfold tM;exact l3 (W6 _ _) Qd
 .have y:=iP p;simp only[A8]at y;rw[aL i y]at hL;cases hL
 .refine bF _ s fun j V r X=>?_;have:=Y j V r X;have y:=iP r;simp only[A8]at y;rw[aL j y]at this;cases this
 .refine hst _ _ _ w _ (fun _ _=>rfl) (h0 _ fun j r=>?_) (m' _ w).drew;have:∃o,l.toArray[j]?=some o:=by unfold spG at hN;have:=bK.1 hN j r;cases p:l.toArray[j]? with
   |none=>rw[p]at this;cases this|some o=>exact⟨o,rfl⟩
  obtain⟨o,p⟩:=this;have y:=iP p;simp only[A8]at y;exact aL j y
def dO{Q:Exit->Act->World->Prop} {G:Act} {w:World} {l:List Oper} (E:World)(C:World->Prop)(D:List Nat)(p:Nat->Gh->Value)(J:(Nat->Bool)->(Nat->Gh)->World->Prop)(f:(Nat->Gh)->Act)(hB:bL l.toArray=true)(hB':∀g,bL (mixL D p g 0 l).toArray=true)(hS:Region.noSelect l.toArray=true)(hN:spB l.toArray D=true)(hC0:C w)(hCs:∀x d,C x->QB x d->C d)(hCw:∀x,C x->QB E x)(h0:∀L,(∀j∈D,L j=false)->J L (fun _=>Gh.zero) w)(hst:∀L t g x d,(∀j∈D,t j=L j)->J L g x->QB x d->J t g d)(hq:∀g u,C u->(∀(x:Grew u)(b o:Nat),b<u.heap.size->x.val.cell? ⟨b,o,none⟩=u.cell? ⟨b,o,none⟩)->Hid (∀x:Grew u,QB E x.val)->Hid (∀x:Grew u,C x.val)->wpQuiet P (mixL D p g 0 l).toArray (fun z=>∃x:Grew u,z=x.val) (fun y=>y=f g) (mixL D p g 0 l) G)(hind:∀j∈D,∀g h,bN (bS l.toArray j 0 l []) 0 (f g).tmps.toList=bN (bS l.toArray j 0 l []) 0 (f (upd g j h)).tmps.toList)(hsp:∀j∈D,∀o,l[j]?=some o->∀(L:Nat->Bool)(g:Nat->Gh)(x:World),J L g x->C x->QB E x->L j=false->(∀e∈o.after,Region.binds .any e=true->L e.on=true)->(∀(i:Nat)(o:Oper),l[i]?=some o->L i=true->∀e∈o.after,Region.binds .any e=true->L e.on=true)->bO P (fun v d=>C d/\((o.dst=none/\J (bV L j) g d)∨∃h,v=p j h/\J (bV L j) (upd g j h) d)) ((execOp (f g).eval o).run P x))(hend:∀g x,J (fun _=>true) g x->C x->QB E x->Q .normal (f g) x):wpAny P .any l.toArray Q l.toArray.size (Array.replicate l.toArray.size false) G {w with drawn:=w.drawn+1}:=by
 have r:∀j∈D,∀o,l.toArray[j]?=some o->o.guard=none:=fun j m o s=>by unfold spB at hN;have:=bK.1 hN j m;rw[s]at this;simpa using this
 refine BI E C D p J f hB hB' hS (bK.2 fun j m=>?_) hC0 hCs hCw h0 hst hq hind (fun g j m o s=>by simp[Region.wanted,r j m o s]) hsp hend;have:=bK.1 hN j m;cases h:l.toArray[j]? with|none=>rw[h]at this;cases this|some o=>rfl
def BJ{s:Nat} {Q:Exit->Act->World->Prop} {R:Act} {w:World} {l:List Oper} (E:World)(C:World->Prop)(y:List Nat)(m:Nat->Gh->Value)(J:(Nat->Bool)->(Nat->Gh)->World->Prop)(f:(Nat->Gh)->Act)(Y:P.follows .mixedOrders=true)(U:bL l.toArray=true)(G:∀g,bL (mixL y m g 0 l).toArray=true)(X:Region.noSelect l.toArray=true)(V:spB l.toArray y=true)(H:C w)(I:∀x d,C x->QB x d->C d)(K:∀x,C x->QB E x)(S:∀L,(∀j∈y,L j=false)->J L (fun _=>Gh.zero) w)(O:∀L p g x d,(∀j∈y,p j=L j)->J L g x->QB x d->J p g d)(Z:∀g u,C u->(∀(x:Grew u)(b o:Nat),b<u.heap.size->x.val.cell? ⟨b,o,none⟩=u.cell? ⟨b,o,none⟩)->Hid (∀x:Grew u,QB E x.val)->Hid (∀x:Grew u,C x.val)->wpQuiet P (mixL y m g 0 l).toArray (fun t=>∃x:Grew u,t=x.val) (fun r=>r=f g) (mixL y m g 0 l) R)(D:∀j∈y,∀g h,bN (bS l.toArray j 0 l []) 0 (f g).tmps.toList=bN (bS l.toArray j 0 l []) 0 (f (upd g j h)).tmps.toList)(N:∀j∈y,∀o,l[j]?=some o->∀(L:Nat->Bool)(g:Nat->Gh)(x:World),J L g x->C x->QB E x->L j=false->(∀e∈o.after,Region.binds .any e=true->L e.on=true)->(∀(i:Nat)(o:Oper),l[i]?=some o->L i=true->∀e∈o.after,Region.binds .any e=true->L e.on=true)->bO P (fun v d=>C d/\((o.dst=none/\J (bV L j) g d)∨∃h,v=m j h/\J (bV L j) (upd g j h) d)) ((execOp (f g).eval o).run P x))(z:∀g x,J (fun _=>true) g x->C x->QB E x->Q .normal (f g) x):(Code.region s l.toArray true).wp P Q R w:=w7 Y (dO E C y m J f U G X V H I K S O Z D N z)
end
section
variable {P:Program}
def IY{f:Operand->Value} {o:Oper} {t:TypeId} {p:Operand} {b off:Nat} {n:Int} {x:World} (i:o.op=.load t p)(d:Sem.run P (isAgg t) x=.ok false x)(hp:f p=.pointer (some ⟨b,off,none⟩))(h:x.cell? ⟨b,off,none⟩=some (.int .i64 n)):(execOp f o).run P x=.ok (.value (.int .i64 n)) x:=by unfold execOp;rw[i];simp[go_sem,hp,h,d]
def W7{f:Operand->Value} {o:Oper} {t:TypeId} {p q:Operand} {b off:Nat} {n:Int} {u:Value} {x:World} (i:o.op=.store t p q)(d:Sem.run P (sizeOf t) x=.ok 1 x)(hp:f p=.pointer (some ⟨b,off,none⟩))(hq:f q=.int .i64 n)(h:x.cell? ⟨b,off,none⟩=some u)(r:x.frozen? ⟨b,off,none⟩=false):(execOp f o).run P x=.ok .skip (x.setCell ⟨b,off,none⟩ (.int .i64 n)):=by unfold execOp;rw[i];simp[go_sem,hp,hq,h,r,d]
def mkMAS(c n:Nat):Nat->Gh->Value:=fun j h=>if j=c then .slice (some h.b) n n else .pointer (some h.b)
def UK{id:Nat} {Q:Exit->Act->World->Prop} {a0:Act} {w:World} {l:List Oper} (C:World)(c m k n:Nat)(Y Z:Obj)(X:Gh->Obj)(s:(Nat->Gh)->Act)(hm:P.follows .mixedOrders=true)(hB:bL l.toArray=true)(hB':∀g,bL (mixL [c,m,k] (mkMAS c n) g 0 l).toArray=true)(hS:Region.noSelect l.toArray=true)(hN:spB l.toArray [c,m,k]=true)(hne:c≠m/\c≠k/\m≠k)(hkd:(match l[k]? with|some o=>o.dst.isNone|none=>false)=true)(hcl:∀L:Nat->Bool,(∀(i:Nat)(o:Oper),l[i]?=some o->L i=true->∀e∈o.after,Region.binds .any e=true->L e.on=true)->∀o,l[k]?=some o->(∀e∈o.after,Region.binds .any e=true->L e.on=true)->L c=true/\L m=true)(hw:QB C w)(hal1:∀o,l[c]?=some o->∀(g:Nat->Gh) (x:World),QB w x->(execOp (s g).eval o).run P x=.ok (.value (.slice (some x.heap.size) n n)) (x.alloc Y))(hal2:∀o,l[m]?=some o->∀(g:Nat->Gh) (x:World),(execOp (s g).eval o).run P x=.ok (.value (.pointer (some x.heap.size))) (x.alloc Z))(hq:∀g u,QB w u->(∀(x:Grew u)(b o:Nat),b<u.heap.size->x.val.cell? ⟨b,o,none⟩=u.cell? ⟨b,o,none⟩)->Hid (∀x:Grew u,QB C x.val)->Hid (∀x:Grew u,QB w x.val)->wpQuiet P (mixL [c,m,k] (mkMAS c n) g 0 l).toArray (fun w'=>∃x:Grew u,w'=x.val) (fun a'=>a'=s g) (mixL [c,m,k] (mkMAS c n) g 0 l) a0)(hind:∀j∈[c,m,k],∀g h,bN (bS l.toArray j 0 l []) 0 (s g).tmps.toList=bN (bS l.toArray j 0 l []) 0 (s (upd g j h)).tmps.toList)(hs:∀o,l[k]?=some o->∀(g:Nat->Gh)(x:World),QB w x->x.heap[(g m).b]?=some Z->∃D,(execOp (s g).eval o).run P x=.ok .skip D/\OnlyB (g m).b x D/\D.heap[(g m).b]?=some (X (g c)))(hend:∀(g:Nat->Gh)(x:World),w.heap.size<=(g c).b->w.heap.size<=(g m).b->(g c).b≠(g m).b->QB w x->QB C x->x.heap[(g c).b]?=some Y->x.heap[(g m).b]?=some (X (g c))->Q .normal (s g) x):(Code.region id l.toArray true).wp P Q a0 w:=by
 obtain⟨r,U,V⟩:=hne;refine BJ C (fun x=>QB w x) [c,m,k] (mkMAS c n) (fun L g x=>(L c=false->L k=false)/\(L m=false->L k=false)/\(L c=true->w.heap.size<=(g c).b/\x.heap[(g c).b]?=some Y)/\(L m=true->w.heap.size<=(g m).b/\x.heap[(g m).b]?=some (if L k=true then X (g c)else Z))/\(L c=true->L m=true->(g c).b≠(g m).b)) s hm hB hB' hS hN (m' _ _) (fun x D h O=>h.trans (O.mono h.size)) (fun x h=>via hw h) ?_ ?_ hq hind ?_ ?_
 .intro L h;have a1:=h c Qd;have a2:=h m Qd;have a3:=h k Qd;refine⟨fun _=>a3,fun _=>a3,fun h=>?_,fun h=>?_,fun h=>?_⟩;·rw[a1]at h;cases h
  .rw[a2]at h;cases h
  .rw[a1]at h;cases h
 .rintro L L' g x D h ⟨K,N,f,t,y⟩ O;rw[h c Qd,h m Qd,h k Qd];exact⟨K,N,fun H=>⟨(f H).1,Zx O (f H).2⟩,fun H=>⟨(t H).1,Zx O (t H).2⟩,y⟩
 .intro j hj o I L g x ⟨K,N,f,t,y⟩ d E S p G;simp only[ZAW,ZBg,Zyi]at hj;rcases hj with rfl|rfl|rfl
  .have z:=K S;refine C3 (hal1 o I g x d) ⟨H4 d _,.inr ⟨{Gh.zero with b:=x.heap.size},by unfold mkMAS;rw[Zc9 rfl],?_,?_,?_,?_,?_⟩⟩;·intro h;rw[dP]at h;cases h
   .intro h;rw[ZJ (e0 U)];exact z
   .intro _;rw[Z4];exact⟨d.size,ZA _ _ rfl⟩
   .intro h;rw[ZJ (e0 r)]at h;rw[ZJ (e0 U),upd_ne (e0 r),z];have:=t h;rw[z]at this;exact⟨this.1,Zz this.2 _⟩
   .intro _ h;rw[ZJ (e0 r)]at h;rw[Z4,upd_ne (e0 r)];have:=ZE (t h).2;dsimp only;omega
  .have z:=N S;refine C3 (hal2 o I g x) ⟨H4 d _,.inr ⟨{Gh.zero with b:=x.heap.size},by unfold mkMAS;rw[q' (e0 r)],?_,?_,?_,?_,?_⟩⟩;·intro h;rw[ZJ (e0 V)];exact z
   .intro h;rw[dP]at h;cases h
   .intro h;rw[ZJ r]at h;rw[upd_ne r];exact⟨(f h).1,Zz (f h).2 _⟩
   .intro _;rw[Z4,ZJ (e0 V),z];exact⟨d.size,ZA _ _ rfl⟩
   .intro h _;rw[ZJ r]at h;rw[Z4,upd_ne r];have:=ZE (f h).2;dsimp only;omega
  .obtain⟨J,R⟩:=hcl L G o I p;obtain⟨p1,p2⟩:=t R;rw[q' (by rw[S];decide)]at p2;obtain⟨D,r1,r2,r3⟩:=hs o I g x d p2;rw[I]at hkd;refine gF r1 ⟨d.trans (r2.below _ p1),.inl ⟨by simpa using hkd,?_,?_,?_,?_,?_⟩⟩;·intro h;rw[ZJ U,J]at h;cases h
   .intro h;rw[ZJ V,R]at h;cases h
   .intro _;exact⟨(f J).1,r2.keep (y J R) (f J).2⟩
   .intro _;rw[dP,Zc9 rfl];exact⟨p1,r3⟩
   .intro _ _;exact y J R
 .rintro g x ⟨K,N,f,t,y⟩ d E;have:=t rfl;rw[Zc9 rfl]at this;exact hend g x (f rfl).1 this.1 (y rfl rfl) d E (f rfl).2 this.2
def UL{id:Nat} {Q:Exit->Act->World->Prop} {a0:Act} {w:World} {l:List Oper} (w0:World)(p q k r:Nat)(b:Nat)(O R:Value)(C:Bool->Bool->Obj)(s:(Nat->Gh)->Act)(hm:P.follows .mixedOrders=true)(hB:bL l.toArray=true)(hB':∀g,bL (mixL [p,q,k,r] (fun j _=>if j=p then O else R) g 0 l).toArray=true)(hS:Region.noSelect l.toArray=true)(hN:spB l.toArray [p,q,k,r]=true)(hne:p≠q/\p≠k/\p≠r/\q≠k/\q≠r/\k≠r)(hkd:(match l[k]?,l[r]? with|some o,some o'=>o.dst.isNone&&o'.dst.isNone|_,_=>false)=true)(hcl:∀L:Nat->Bool,(∀(i:Nat)(o:Oper),l[i]?=some o->L i=true->∀e∈o.after,Region.binds .any e=true->L e.on=true)->((L k=true->L p=true/\L q=true)/\(L r=true->L p=true/\L q=true))/\(∀o,l[k]?=some o->(∀e∈o.after,Region.binds .any e=true->L e.on=true)->L p=true/\L q=true)/\(∀o,l[r]?=some o->(∀e∈o.after,Region.binds .any e=true->L e.on=true)->L p=true/\L q=true))(hw:QB w0 w)(hb:w0.heap.size<=b)(hb0:w.heap[b]?=some (C false false))(hp:∀o,l[p]?=some o->∀(g:Nat->Gh)(x:World),x.heap[b]?=some (C false false)->(execOp (s g).eval o).run P x=.ok (.value O) x)(hqq:∀o,l[q]?=some o->∀(g:Nat->Gh)(x:World),x.heap[b]?=some (C false false)->(execOp (s g).eval o).run P x=.ok (.value R) x)(hq:∀g u,w.grownBy u (some b)->(∀(x:Grew u)(b o:Nat),b<u.heap.size->x.val.cell? ⟨b,o,none⟩=u.cell? ⟨b,o,none⟩)->Hid (∀x:Grew u,QB w0 x.val)->Hid (∀x:Grew u,w.grownBy x.val (some b))->wpQuiet P (mixL [p,q,k,r] (fun j _=>if j=p then O else R) g 0 l).toArray (fun w'=>∃x:Grew u,w'=x.val) (fun a'=>a'=s g) (mixL [p,q,k,r] (fun j _=>if j=p then O else R) g 0 l) a0)(hind:∀j∈[p,q,k,r],∀g h,bN (bS l.toArray j 0 l []) 0 (s g).tmps.toList=bN (bS l.toArray j 0 l []) 0 (s (upd g j h)).tmps.toList)(hs1:∀o,l[k]?=some o->∀(f:Bool)(g:Nat->Gh)(x:World),x.heap[b]?=some (C false f)->∃d,(execOp (s g).eval o).run P x=.ok .skip d/\OnlyB b x d/\d.heap[b]?=some (C true f))(hs2:∀o,l[r]?=some o->∀(f:Bool)(g:Nat->Gh)(x:World),x.heap[b]?=some (C f false)->∃d,(execOp (s g).eval o).run P x=.ok .skip d/\OnlyB b x d/\d.heap[b]?=some (C f true))(hend:∀(g:Nat->Gh)(x:World),w.grownBy x (some b)->QB w0 x->x.heap[b]?=some (C true true)->Q .normal (s g) x):(Code.region id l.toArray true).wp P Q a0 w:=by
 obtain⟨n1,n2,n3,n4,n5,n6⟩:=hne;have I:∀{x d:World},OnlyB b x d->x.grownBy d (some b):=fun {x d} h=>⟨(h.below 0 (e6 _)).os,(h.below 0 (e6 _)).tape,(h.below 0 (e6 _)).output,(h.below 0 (e6 _)).size,fun i _ hi=>h.other i fun e=>hi (by rw[e])⟩;have t:∀{x d y:World},x.grownBy d (some b)->d.grownBy y (some b)->x.grownBy y (some b):=fun h k=>World.grownBy.trans h k;refine BJ w0 (fun x=>w.grownBy x (some b)) [p,q,k,r] _ (fun L g x=>x.heap[b]?=some (C (L k) (L r))) s hm hB hB' hS hN ⟨rfl,rfl,rfl,r3 _,fun _ _ _=>rfl⟩ (fun x d h hb=>t h ⟨hb.os,hb.tape,hb.output,hb.size,fun k z _=>hb.block k z⟩) (fun x h=>TL hw h fun i e=>by cases e;exact hb) ?_ ?_ hq hind ?_ ?_;·intro L h;rw[h k Qd,h r Qd];exact hb0
 .rintro L L' g x d h m S;rw[h k Qd,h r Qd];exact Zx S m
 .intro j hj o G L g x m D H E N J;obtain⟨⟨Y,Z⟩,c3,c4⟩:=hcl L J;simp only[ZAW,ZBg,Zyi]at hj;rcases hj with rfl|rfl|rfl|rfl
  .have z:L k=false:=by cases h:L k;rfl;have:=(Y h).1;rw[E]at this;cases this
   have K:L r=false:=by cases h:L r;rfl;have:=(Z h).1;rw[E]at this;cases this
   rw[z,K]at m;refine C3 (hp o G g x m) ⟨D,.inr ⟨Gh.zero,by rw[Zc9 rfl],?_⟩⟩;rw[ZJ (e0 n2),ZJ (e0 n3),z,K];exact m
  .have z:L k=false:=by cases h:L k;rfl;have:=(Y h).2;rw[E]at this;cases this
   have K:L r=false:=by cases h:L r;rfl;have:=(Z h).2;rw[E]at this;cases this
   rw[z,K]at m;refine C3 (hqq o G g x m) ⟨D,.inr ⟨Gh.zero,by rw[q' (e0 n1)],?_⟩⟩;rw[ZJ (e0 n4),ZJ (e0 n5),z,K];exact m
  .rw[E]at m;obtain⟨d,U,V,X⟩:=hs1 o G _ g x m;refine gF U ⟨t D (I V),.inl ⟨?_,?_⟩⟩
   .rw[G]at hkd;split at hkd;·rename_i e1 e2;cases e1;simp only[aY]at hkd;simpa using hkd.1
    .cases hkd
   .rw[dP,ZJ (e0 n6)];exact X
  .rw[E]at m;obtain⟨d,U,V,X⟩:=hs2 o G _ g x m;refine gF U ⟨t D (I V),.inl ⟨?_,?_⟩⟩
   .rw[G]at hkd;split at hkd;·rename_i e1 e2;cases e2;simp only[aY]at hkd;simpa using hkd.2
    .cases hkd
   .rw[dP,ZJ n6];exact X
 .intro g x m D H;exact hend g x D H m
end
section
variable {P:Program}
def ZW(d w:World)(v:Value)(x:World):Prop:=QB d x/\w.heap.size<=x.heap.size/\∀k,k<w.heap.size->some k≠v.ownBlock->x.heap[k]?=w.heap[k]?
def ZW.refl{d w:World} {v:Value} (h:QB d w):ZW d w v w:=⟨h,r3 _,fun _ _ _=>rfl⟩
def ZW.below{C w x f:World} {v:Value} (h:ZW C w v x)(hb:QB x f):ZW C w v f:=⟨via h.1 hb,l3 h.2.1 hb.size,fun k d i=>(hb.block k (h8 d h.2.1)).trans (h.2.2 k d i)⟩
def ZW.grown{g w x p:World} {v:Value} {row:Option Nat} (h:ZW g w v x)(hw:g.heap.size<=w.heap.size)(s:∀r,v.ownBlock=some r->g.heap.size<=r)(f:x.grownBy p row)(m:∀r,row=some r->w.heap.size<=r∨v.ownBlock=some r):ZW g w v p:=⟨ZX h.1 f fun b e=>by
  rcases m b e with d|d;·omega
  .exact s b d,l3 h.2.1 f.size,fun k i o=>(f.block k (h8 i h.2.1) fun e=>by
   rcases m k e.symm with d|d;·omega
   .exact o d.symm).trans (h.2.2 k i o)⟩
def mkR6(m0 c m1 d m2 n nq:Nat):Nat->Gh->Value:=fun j g=>if j=m0 then .slice (some g.b) 0 0 else if j=c then .slice g.a1 n g.c1 else if j=m1 then .slice (some g.b) 1 1 else if j=m2 then .slice (some g.b) 1 1 else if j=d then .slice g.a1 (n+1) g.c1 else .slice g.a1 (nq+1) g.c1
def UM{Q:Exit->Act->World->Prop} {a0:Act} {w:World} {l:List Oper} (w0:World)(m0 c m1 C m2 q2:Nat)(n nq:Nat)(e1:TypeId)(xs ys:List Value)(z0 z1:Obj)(z2:Gh->Obj)(row:Gh->List Value)(U:Nat)(Y:TypeId)(v:Value)(X:List Value)(D:(Nat->Gh)->Act)(hB:bL l.toArray=true)(hB':∀g,bL (mixL [m0,c,m1,C,m2,q2] (mkR6 m0 c m1 C m2 n nq) g 0 l).toArray=true)(hS:Region.noSelect l.toArray=true)(hN:spB l.toArray [m0,c,m1,C,m2,q2]=true)(hne:m0≠c/\m0≠m1/\m0≠C/\m0≠m2/\m0≠q2/\c≠m1/\c≠C/\c≠m2/\c≠q2/\m1≠C/\m1≠m2/\m1≠q2/\C≠m2/\C≠q2/\m2≠q2)(hd1:∀L:Nat->Bool,(∀(i:Nat)(o:Oper),l[i]?=some o->L i=true->∀e∈o.after,Region.binds .any e=true->L e.on=true)->(∀o,l[C]?=some o->(∀e∈o.after,Region.binds .any e=true->L e.on=true)->L c=true/\L m1=true)/\(∀o,l[m2]?=some o->(∀e∈o.after,Region.binds .any e=true->L e.on=true)->L C=true)/\(∀o,l[q2]?=some o->(∀e∈o.after,Region.binds .any e=true->L e.on=true)->L m2=true))(hw:QB w0 w)(hv0:∀r,v.ownBlock=some r->w0.heap.size<=r)(hown:w.ownsRow U Y 1 v nq X)(hal0:∀o,l[m0]?=some o->∀(g:Nat->Gh) (x:World),(execOp (D g).eval o).run P x=.ok (.value (.slice (some x.heap.size) 0 0)) (x.alloc z0))(hcl:∀o,l[c]?=some o->∀(g:Nat->Gh)(x:World),ZW w0 w v x->∃z s,(execOp (D g).eval o).run P x=.ok (.value z) s/\s.ownsRow w.heap.size e1 1 z n xs/\QB x s)(hal1:∀o,l[m1]?=some o->∀(g:Nat->Gh) (x:World),(execOp (D g).eval o).run P x=.ok (.value (.slice (some x.heap.size) 1 1)) (x.alloc z1))(hap1:∀o,l[C]?=some o->∀(g:Nat->Gh) (x:World),ZW w0 w v x->x.ownsRow w.heap.size e1 1 (.slice (g c).a1 n (g c).c1) n xs->x.heap[(g m1).b]?=some z1->∃z s,(execOp (D g).eval o).run P x=.ok (.value z) s/\s.ownsRow w.heap.size e1 1 z (n+1) (xs++ys)/\x.grownBy s (Value.slice (g c).a1 n (g c).c1).ownBlock)(hal2:∀o,l[m2]?=some o->∀(g:Nat->Gh) (x:World),(execOp (D g).eval o).run P x=.ok (.value (.slice (some x.heap.size) 1 1)) (x.alloc (z2 (g C))))(hap2:∀o,l[q2]?=some o->∀(g:Nat->Gh) (x:World),ZW w0 w v x->x.ownsRow U Y 1 v nq X->x.heap[(g m2).b]?=some (z2 (g C))->∃z s,(execOp (D g).eval o).run P x=.ok (.value z) s/\s.ownsRow U Y 1 z (nq+1) (X++row (g C))/\x.grownBy s v.ownBlock/\(z.ownBlock=v.ownBlock∨z.ownBlock=some x.heap.size))(hq:∀g u,ZW w0 w v u->(∀(x:Grew u)(b o:Nat),b<u.heap.size->x.val.cell? ⟨b,o,none⟩=u.cell? ⟨b,o,none⟩)->Hid (∀x:Grew u,QB w0 x.val)->Hid (∀x:Grew u,ZW w0 w v x.val)->wpQuiet P (mixL [m0,c,m1,C,m2,q2] (mkR6 m0 c m1 C m2 n nq) g 0 l).toArray (fun w'=>∃x:Grew u,w'=x.val) (fun a'=>a'=D g) (mixL [m0,c,m1,C,m2,q2] (mkR6 m0 c m1 C m2 n nq) g 0 l) a0)(hind:∀j∈[m0,c,m1,C,m2,q2],∀g h,bN (bS l.toArray j 0 l []) 0 (D g).tmps.toList=bN (bS l.toArray j 0 l []) 0 (D (upd g j h)).tmps.toList)(hend:∀(g:Nat->Gh) (x:World),ZW w0 w v x->x.ownsRow w.heap.size e1 1 (.slice (g C).a1 (n+1) (g C).c1) (n+1) (xs++ys)->x.ownsRow U Y 1 (.slice (g q2).a1 (nq+1) (g q2).c1) (nq+1) (X++row (g C))->((Value.slice (g q2).a1 (nq+1) (g q2).c1).ownBlock=v.ownBlock∨∃r,(Value.slice (g q2).a1 (nq+1) (g q2).c1).ownBlock=some r/\w.heap.size<=r/\some r≠(Value.slice (g C).a1 (n+1) (g C).c1).ownBlock)->Q .normal (D g) x):wpAny P .any l.toArray Q l.toArray.size (Array.replicate l.toArray.size false) a0 {w with drawn:=w.drawn+1}:=by
 obtain⟨o1,o2,o3,o4,o5,n1,n2,n3,n4,n5,n6,n7,n8,n9,G⟩:=hne;have R:∀r,v.ownBlock=some r->r<w.heap.size:=fun r e=>(hown.lt r e).2;refine dO w0 (ZW w0 w v) [m0,c,m1,C,m2,q2] (mkR6 m0 c m1 C m2 n nq) (fun L g x=>((L C=true->L c=true/\L m1=true)/\(L m2=true->L C=true)/\(L q2=true->L m2=true))/\(L C=false->L c=true->x.ownsRow w.heap.size e1 1 (.slice (g c).a1 n (g c).c1) n xs)/\(L C=false->L m1=true->w.heap.size<=(g m1).b/\x.heap[(g m1).b]?=some z1)/\(L C=true->x.ownsRow w.heap.size e1 1 (.slice (g C).a1 (n+1) (g C).c1) (n+1) (xs++ys))/\(L q2=false->L m2=true->w.heap.size<=(g m2).b/\x.heap[(g m2).b]?=some (z2 (g C)))/\(L q2=false->x.ownsRow U Y 1 v nq X)/\(L q2=true->x.ownsRow U Y 1 (.slice (g q2).a1 (nq+1) (g q2).c1) (nq+1) (X++row (g C))/\((Value.slice (g q2).a1 (nq+1) (g q2).c1).ownBlock=v.ownBlock∨∃r,(Value.slice (g q2).a1 (nq+1) (g q2).c1).ownBlock=some r/\w.heap.size<=r/\some r≠(Value.slice (g C).a1 (n+1) (g C).c1).ownBlock))) D hB hB' hS hN (ZW.refl hw) (fun x s h y=>h.below y) (fun x h=>h.1) ?_ ?_ hq hind ?_ ?_;·intro L h;have a1:=h c Qd;have a2:=h m1 Qd;have a3:=h C Qd;have a4:=h m2 Qd;have a5:=h q2 Qd;rw[a1,a2,a3,a4,a5];exact⟨⟨(fun h=>by cases h),(fun h=>by cases h),(fun h=>by cases h)⟩,(fun _ h=>by cases h),(fun _ h=>by cases h),(fun h=>by cases h),(fun _ h=>by cases h),fun _=>hown,(fun h=>by cases h)⟩
 .rintro L L' g x s h ⟨j0,j1,j2,j3,j4,K,N⟩ y;have a1:=h c Qd;have a2:=h m1 Qd;have a3:=h C Qd;have a4:=h m2 Qd;have a5:=h q2 Qd;rw[a1,a2,a3,a4,a5];exact⟨j0,fun h m=>ZL (j1 h m) y,fun h m=>⟨(j2 h m).1,Zx y (j2 h m).2⟩,fun h=>ZL (j3 h) y,fun h m=>⟨(j4 h m).1,Zx y (j4 h m).2⟩,fun h=>ZL (K h) y,fun h=>⟨ZL (N h).1 y,(N h).2⟩⟩
 .intro j hj o I L g x ⟨⟨k1,k2,k3⟩,j1,j2,j3,j4,K,N⟩ t aA J f Z;obtain⟨d1,d2,d3⟩:=hd1 L Z;have S:L C=false->L m2=false/\L q2=false:=fun h=>by
   have a:L m2=false:=by cases H:L m2 with|false=>rfl|true=>rw[k2 H]at h;cases h
   refine⟨a,?_⟩;cases H:L q2 with|false=>rfl|true=>rw[k3 H]at a;cases a
  have aC:L m2=false->L q2=false:=fun h=>by cases H:L q2 with
   |false=>rfl|true=>rw[k3 H]at h;cases h
  have nc:L c=false->L C=false:=fun h=>by cases H:L C with|false=>rfl|true=>rw[(k1 H).1]at h;cases h
  have aB:L m1=false->L C=false:=fun h=>by cases H:L C with
   |false=>rfl|true=>rw[(k1 H).2]at h;cases h
  simp only[ZAW,ZBg,Zyi]at hj;rcases hj with rfl|rfl|rfl|rfl|rfl|rfl;·refine C3 (hal0 o I g x) ⟨t.below (ZB _ _),.inr ⟨{Gh.zero with b:=x.heap.size},by simp[mkR6],?_⟩⟩;rw[ZJ (e0 o1),ZJ (e0 o2),ZJ (e0 o3),ZJ (e0 o4),ZJ (e0 o5),upd_ne (e0 o1),upd_ne (e0 o2),upd_ne (e0 o3),upd_ne (e0 o4),upd_ne (e0 o5)];have y:=ZB x z0;exact⟨⟨k1,k2,k3⟩,fun h m=>ZL (j1 h m) y,fun h m=>⟨(j2 h m).1,Zx y (j2 h m).2⟩,fun h=>ZL (j3 h) y,fun h m=>⟨(j4 h m).1,Zx y (j4 h m).2⟩,fun h=>ZL (K h) y,fun h=>⟨ZL (N h).1 y,(N h).2⟩⟩
  .have p:=nc J;obtain⟨l2,E⟩:=S p;obtain⟨z,s,r1,p1,p2⟩:=hcl o I g x t;obtain⟨A,cp,rfl⟩:=ZV p1;refine C3 r1 ⟨t.below p2,.inr ⟨{Gh.zero with a1:=A,c1:=cp},by simp[mkR6,e0 o1],?_⟩⟩;rw[dP,ZJ (e0 n1),ZJ (e0 n2),ZJ (e0 n3),ZJ (e0 n4),Z4,upd_ne (e0 n1),upd_ne (e0 n2),upd_ne (e0 n3),upd_ne (e0 n4),p,l2,E];exact⟨⟨(fun h=>by cases h),(fun h=>by cases h),(fun h=>by cases h)⟩,fun _ _=>p1,fun h m=>⟨(j2 p m).1,Zx p2 (j2 p m).2⟩,(fun h=>by cases h),(fun _ h=>by cases h),fun _=>ZL (K E) p2,(fun h=>by cases h)⟩
  .have p:=aB J;obtain⟨l2,E⟩:=S p;refine C3 (hal1 o I g x) ⟨t.below (ZB _ _),.inr ⟨{Gh.zero with b:=x.heap.size},by simp[mkR6,e0 n1,e0 o2],?_⟩⟩;rw[dP,ZJ n1,ZJ (e0 n5),ZJ (e0 n6),ZJ (e0 n7),Z4,upd_ne n1,upd_ne (e0 n5),upd_ne (e0 n6),upd_ne (e0 n7),p,l2,E];exact⟨⟨(fun h=>by cases h),(fun h=>by cases h),(fun h=>by cases h)⟩,fun _ h=>ZL (j1 p h) (ZB _ _),fun _ _=>⟨t.2.1,ZA _ _ rfl⟩,(fun h=>by cases h),(fun _ h=>by cases h),fun _=>ZL (K E) (ZB _ _),(fun h=>by cases h)⟩
  .obtain⟨lc,V⟩:=d1 o I f;obtain⟨l2,E⟩:=S J;have d:=j1 J lc;obtain⟨z,s,r1,r2,r3⟩:=hap1 o I g x t d (j2 J V).2;obtain⟨gB,O,rfl⟩:=ZV r2;have hr:∀r,(Value.slice (g c).a1 n (g c).c1).ownBlock=some r->w.heap.size<=r:=fun r e=>(d.lt r e).1;refine C3 r1 ⟨t.grown (by have:=hw.size;exact this) hv0 r3 (fun r e=>.inl (hr r e)),.inr ⟨{Gh.zero with a1:=gB,c1:=O},by simp[mkR6,e0 n2,e0 n5,n8,e0 o3],?_⟩⟩;rw[dP,ZJ n2,ZJ n5,ZJ (e0 n8),ZJ (e0 n9),Z4,upd_ne n2,upd_ne n5,upd_ne (e0 n8),upd_ne (e0 n9),l2,E];refine⟨⟨fun _=>⟨lc,V⟩,(fun h=>by cases h),(fun h=>by cases h)⟩,(fun h=>by cases h),(fun h=>by cases h),fun _=>r2,(fun _ h=>by cases h),fun _=>R' (K E) fun r e=>r3.block r ?_ ?_,(fun h=>by cases h)⟩;·exact h8 (R r e) t.2.1
   .intro e';have:=hr r e'.symm;have:=R r e;omega
  .have p:=d2 o I f;have E:=aC J;refine C3 (hal2 o I g x) ⟨t.below (ZB _ _),.inr ⟨{Gh.zero with b:=x.heap.size},by simp[mkR6,e0 n3,e0 n6,e0 o4],?_⟩⟩;rw[dP,ZJ n3,ZJ n6,ZJ n8,ZJ (e0 G),Z4,upd_ne n3,upd_ne n6,upd_ne n8,upd_ne (e0 G),p,E];exact⟨⟨fun _=>k1 p,fun _=>rfl,(fun h=>by cases h)⟩,(fun h=>by cases h),(fun h=>by cases h),fun _=>ZL (j3 p) (ZB _ _),fun _ _=>⟨t.2.1,ZA _ _ rfl⟩,fun _=>ZL (K E) (ZB _ _),(fun h=>by cases h)⟩
  .have V:=d3 o I f;have p:=k2 V;obtain⟨z,s,r1,r2,r3,r4⟩:=hap2 o I g x t (K J) (j4 J V).2;obtain⟨gB,O,rfl⟩:=ZV r2;have d:=j3 p;refine C3 r1 ⟨t.grown hw.size hv0 r3 (fun r e=>.inr e),.inr ⟨{Gh.zero with a1:=gB,c1:=O},by simp[mkR6,e0 n4,e0 n7,e0 n9,e0 G,e0 o5],?_⟩⟩;rw[dP,ZJ n4,ZJ n7,ZJ n9,ZJ G,Z4,upd_ne n4,upd_ne n7,upd_ne n9,upd_ne G,p,V];refine⟨⟨fun _=>k1 p,fun _=>rfl,fun _=>rfl⟩,(fun h=>by cases h),(fun h=>by cases h),fun _=>R' d fun r e=>r3.block r ?_ ?_,(fun h=>by cases h),(fun h=>by cases h),fun _=>⟨r2,?_⟩⟩;·exact(d.lt r e).2
   .intro e';have:=(d.lt r e).1;have:=R r e'.symm;omega
   .rcases r4 with h|h;·exact .inl h
    .refine .inr ⟨_,h,t.2.1,fun e=>?_⟩;have:=(d.lt _ e.symm).2;omega
 .rintro g x ⟨-,-,-,j3,-,-,N⟩ t aA;exact hend g x t (j3 rfl) (N rfl).1 (N rfl).2
def UN{f:Operand->Value} {o:Oper} {x:World} (s y:Operand)(t e:TypeId)(i:TypeInfo)(z:Value)(d base b c n:Nat) {A:Option Addr} {l:List Int} (C:l.length=n)(ho:o.op=.call {callee:=.builtin .append,args:=#[s,y],argTypes:=#[t,t]})(hs:f s=.slice (some b) 0 0)(N:f y=.slice A n c)(ht:P.underlying t=some (.slice e))(g:P.info? e=some i)(hz:i.zero=some z)(p:i.size=1)(I:i.bytes=d)(O:z.cells.size=1)(G:d<=1000)(r:At 1 Zc x A l)(hne:0<l.length)(Z:l.length<=1000)(H:base<=x.heap.size):∃V R,(execOp f o).run P x=.ok (.value V) R/\R.ownsRow base e 1 V n (l.map (Value.int .i64))/\QB x R:=by
 subst C;obtain⟨a,rfl⟩:∃a,A=some a:=by obtain⟨D,Q,h,-⟩:=r 0 _ (h' hne);exact⟨_,h⟩
 have m:∀j u,(l.map (Value.int .i64))[j]?=some u->x.cell? (a.add j)=some u:=fun j u U=>by
  rw[k2]at U;obtain⟨y,N,rfl⟩:=n2.1 U;obtain⟨D,Q,h,-,Y⟩:=r j y N;cases h;have:=Y 0 _ rfl;have e:Addr.add ⟨D,Q,none⟩ j=⟨D,Q+j,none⟩:=by unfold Addr.add;split<;>simp_all
  rw[e];simpa using this
 have X:l.length*d<=1000*1000:=hI Z G;subst I;have K:(l.map (Value.int .i64)).length=l.length*i.size:=by simp[p]
 have S:=run_append_grow (P:=P) (w:=x) t o.type e i z ht g hz ⟨b,0,none⟩ 0 0 [] Qd Qd a l.length c (l.map (Value.int .i64)) K m Qa Qa (growslice_fits Qa (by rw[w0];omega));simp only[w0]at S;have L:=grownCap_ge x l.length 0 e;have J:grownCap x l.length 0 e<=maxLen:=grownCap_le_maxLen x l.length 0 e Qq;have E:QB x (x.drew.alloc (.cells (([]:List Value).toArray++(l.map (Value.int .i64)).toArray++Builtin.zeroCells z.cells (grownCap x l.length 0 e-l.length)) e)):=((m' _ x).drew).alloc Qd _;refine⟨_,_,?_,⟨Qd,.inr ⟨x.heap.size,_,_,rfl,H,Sp x.drew _,L,J,?_,?_⟩⟩,E⟩;·unfold execOp;simp only[ho,resolve,invoke,builtin,aB,aC,aA,cF,w6,M1,hs,N,S]
 .simp only[Array.size_append,A8,size_zeroCells,O,B3,w9,w0,p1];omega
 .simp only[AX,Q3,p1];rw[show l.length=(l.map (Value.int .i64)).length by simp];exact List.take_left
def IZ{f:Operand->Value} {o:Oper} {x:World} (s y:Operand)(t e:TypeId)(i:TypeInfo)(I v:Value)(d base n b:Nat)(xs:List Value)(u:Value)(tb:TypeId)(O:o.op=.call {callee:=.builtin .append,args:=#[s,y],argTypes:=#[t,t]})(hs:f s=v)(R:f y=.slice (some b) 1 1)(Q:P.underlying t=some (.slice e))(Z:P.info? e=some i)(hz:i.zero=some I)(p:i.size=1)(G:i.bytes=d)(H:I.cells.size=1)(E:d<=1000)(hown:x.ownsRow base e 1 v n xs)(C:x.heap[b]?=some (.cells #[u] tb))(K:u.oneCell'=true)(D:n+1<=1000)(m:base<=x.heap.size):∃r z,(execOp f o).run P x=.ok (.value r) z/\z.ownsRow base e 1 r (n+1) (xs++[u])/\x.grownBy z v.ownBlock/\(r.ownBlock=v.ownBlock∨r.ownBlock=some x.heap.size):=by
 have L:(n+1)*d<=1000*1000:=hI D E;obtain⟨g,J,z,S,U,V,X,Y⟩:=q5 (P:=P) x t o.type base e i I 1 d Q Z hz p G H Qc v n xs hown ⟨b,0,none⟩ 1 1 [u] Qd (fun j r N=>q6 C j r (by simpa using N)) (by simpa using K) Qc Qq Qa m _ rfl;refine⟨_,z,?_,U,V,?_⟩;·unfold execOp;simp only[O,resolve,invoke,builtin,aB,aC,aA,cF,w6,M1,hs,R,S]
 .rcases X with h|h;·exact .inl h.symm
  .subst h;exact .inr rfl
def RowsOwn.row6{w0 w x:World} {base n:Nat} {v:Value} {m p:Option Addr} {s f:Nat} {xs:List IR} {l:List Int} (h:RowsOwn w base v xs)(hb:base<=w.heap.size)(E:ZW w0 w v x)(D:x.ownsRow w.heap.size 3 1 (.slice p n f) n (l.map (Value.int .i64)))(Y:0<n)(N:x.ownsRow base 28 1 (.slice m (xs.length+1) s) (xs.length+1) ((xs.map fun x=>Value.slice x.A x.l.length x.c)++[.slice p n f]))(J:(Value.slice m (xs.length+1) s).ownBlock=v.ownBlock∨∃r,(Value.slice m (xs.length+1) s).ownBlock=some r/\w.heap.size<=r/\some r≠(Value.slice p n f).ownBlock):RowsOwn x base (.slice m (xs.length+1) s) (xs++[⟨p,f,l⟩]):=by
 have I:l.length=n:=by have:=D.1;simpa using this
 refine⟨?_,fun y d=>?_⟩;·rw[hK,b4];simpa [I] using N
 .rcases s0.1 d with d|d
  .obtain⟨X,L⟩:=h.row y d;refine⟨fun k z S=>?_,fun a t=>?_⟩;·obtain⟨b,o,K,i,O⟩:=X k z S;obtain⟨C,Z,g⟩:=L _ K;refine⟨b,o,K,h8 i E.2.1,fun j u R=>?_⟩;rw[<-O j u R];exact P1 (a:=⟨b,o+k*1+j,none⟩) (E.2.2 b i g)
   .obtain⟨C,Z,g⟩:=L a t;refine⟨C,h8 Z E.2.1,?_⟩;rcases J with e|⟨r,e,Q,-⟩;·rw[e];exact g
    .rw[e];intro G;cases G;omega
  .rw[y2]at d;subst d;refine⟨A' (n:=n) (c:=f) D,fun a t=>?_⟩;dsimp only at t;subst t;obtain⟨U,V⟩:=D.lt a.block rfl;refine⟨l3 hb U,V,?_⟩;rcases J with e|⟨r,e,Q,G⟩;·rw[e];intro H;have:=(h.own.lt _ H.symm).2;omega
   .rw[e];exact fun H=>G H.symm
end
section
variable {P:Program} {n:Nat}
def BK{l:Nat} {o:Oper} {a:Act} {w:World} {K:Act->World->Prop} {Q:Exit->Act->World->Prop} (e:∀c,o.op≠.defer c)(h:o.wp P a w K Q):o.wpIn (Fence.wide.inRound l) n P a w K Q:=by unfold Oper.wpIn;refine⟨fun _ _=>trivial,?_⟩;rw[Oper.semAt_eq _ _ _ e];unfold Oper.wp at h;generalize (execOp a.eval o).run P w=r at*;cases r with
 |ok nx w'=>
  cases nx<;>simp only[Oper.upon]at h<;>simp only[Oper.uponIn];case value u=>exact h
  case skip=>exact h
  case defer d=>exact h
  case enter f args=>exact⟨fun i=>(by cases i),(D6.2 h).inRound l⟩
  case row r args=>refine⟨fun i=>(by cases i),fun c cs _=>?_⟩;obtain⟨v,m,q,s⟩:=h c cs;exact⟨v,m,q,stepsIn_wide.2 s⟩|halt x w'=>cases x<;>simp only[Oper.upon]at h<;>simp only[Oper.uponIn];exact h
def UO{e:Array Oper} {l i:Nat} {a:Act} {w:World} {K m:Act->World->Prop} {Q:Exit->Act->World->Prop} (r:∀o∈e,∀c,o.op≠.defer c)(g:¬LetsOut Q)(p:∀a w,K a w->m a w)(h:wpOp P e Q i K a w):wpOpIn (Fence.wide.inRound l) n P e Q i m a w:=by
 have h:=wpOp_mono p h;unfold wpOp at h;unfold wpOpIn;split;·rename_i d;simpa only[d] using h
 .rename_i o d;simp only[d]at h;split
  .rename_i f;rw[Zc9 f]at h;rcases h with h|h;·exact BK (r o (bG d)) h
   .exact absurd h.2 g
  .rename_i f;rw[q' f]at h;exact⟨fun _ _=>trivial,h⟩
def k8{g:Array Oper} {z:Region.Mode} {l:Nat} {Q:Exit->Act->World->Prop} (y:∀o∈g,∀c,o.op≠.defer c)(hL:¬LetsOut Q):∀(f:Nat)(d:Array Bool)(a:Act)(w:World),wpAny P z g Q f d a w->wpAnyIn (Fence.wide.inRound l) n P z g Q f d a w|0,_,_,_,h=>h|f+1,_,_,_,h=>⟨h.1,fun i r=>UO y hL (fun m s p=>k8 y hL f _ m s p) (h.2 i r)⟩
def kL{g:Array Oper} {l:Nat} {Q:Exit->Act->World->Prop} (hL:¬LetsOut Q):∀(s:List Oper)(a:Act)(w:World),s.all (fun o=>match o.op with|.defer _=>false|_=>true)=true->wpList P g Q s a w->wpListIn (Fence.wide.inRound l) n P g Q s a w
 |[],_,_,_,h=>h|o::rest,a,w,hd,h=>by
  simp only[iX,aY]at hd;have d:∀c,o.op≠.defer c:=fun c p=>by rw[p]at hd;cases hd.1
  unfold wpList at h;unfold wpListIn;split
  .rename_i f;rw[Zc9 f]at h;rcases h with h|h;·exact BK d (vN (fun i r m=>kL hL rest i r hd.2 m) h)
   .exact absurd h.2 hL
  .rename_i f;rw[q' f]at h;exact⟨fun _ _=>trivial,kL hL rest _ _ hd.2 h⟩
def EU(e w:World)(d f h:Nat)(x:World):Prop:=QB e x/\w.heap.size<=x.heap.size/\∀k,k<w.heap.size->k≠d->k≠f->k≠h->x.heap[k]?=w.heap[k]?
def UP{Q:Exit->Act->World->Prop} {a0:Act} {w:World} {l:List Oper} (e:World)(p q r:Nat)(f i m:Nat)(y4 z4 y5 z5 y6 z6:Obj)(I:Act)(hB:bL l.toArray=true) (hB':bL (mixL [p,q,r] (fun _ _=>undef) (fun _=>Gh.zero) 0 l).toArray=true) (hS:Region.noSelect l.toArray=true) (hN:spB l.toArray [p,q,r]=true) (hne:p≠q/\p≠r/\q≠r)(hkd:(match l[p]?,l[q]?,l[r]? with|some o,some o',some o''=>o.dst.isNone&&o'.dst.isNone&&o''.dst.isNone|_,_,_=>false)=true)(hw:QB e w)(hb:e.heap.size<=f/\e.heap.size<=i/\e.heap.size<=m)(hbn:f≠i/\f≠m/\i≠m)(h4:w.heap[f]?=some y4)(h5:w.heap[i]?=some y5)(h6:w.heap[m]?=some y6)(hs4:∀o,l[p]?=some o->∀x,EU e w f i m x->x.heap[f]?=some y4->∃d,(execOp I.eval o).run P x=.ok .skip d/\OnlyB f x d/\d.heap[f]?=some z4)(hs5:∀o,l[q]?=some o->∀x,EU e w f i m x->x.heap[i]?=some y5->∃d,(execOp I.eval o).run P x=.ok .skip d/\OnlyB i x d/\d.heap[i]?=some z5)(hs6:∀o,l[r]?=some o->∀x,EU e w f i m x->x.heap[m]?=some y6->∃d,(execOp I.eval o).run P x=.ok .skip d/\OnlyB m x d/\d.heap[m]?=some z6)(hq:∀u,EU e w f i m u->(∀(x:Grew u)(b o:Nat),b<u.heap.size->x.val.cell? ⟨b,o,none⟩=u.cell? ⟨b,o,none⟩)->wpQuiet P (mixL [p,q,r] (fun _ _=>undef) (fun _=>Gh.zero) 0 l).toArray (fun w'=>∃x:Grew u,w'=x.val) (fun a'=>a'=I) (mixL [p,q,r] (fun _ _=>undef) (fun _=>Gh.zero) 0 l) a0)(C:∀x,EU e w f i m x->x.heap[f]?=some z4->x.heap[i]?=some z5->x.heap[m]?=some z6->Q .normal I x):wpAny P .any l.toArray Q l.toArray.size (Array.replicate l.toArray.size false) a0 {w with drawn:=w.drawn+1}:=by
 obtain⟨n1,n2,n3⟩:=hne;obtain⟨e1,e2,e3⟩:=hbn;have O:∀j∈[p,q,r],∀o,l[j]?=some o->o.dst=none:=by cases K:l[p]? with|none=>rw[K]at hkd;simp at hkd|some o1=>cases V:l[q]? with|none=>rw[K,V]at hkd;simp at hkd|some o2=>cases Z:l[r]? with
    |none=>rw[K,V,Z]at hkd;simp at hkd|some o3=>
     rw[K,V,Z]at hkd;simp only[aY,AY]at hkd;intro j J o t;simp only[ZAW,ZBg,Zyi]at J;rcases J with rfl|rfl|rfl;·rw[K]at t;cases t;exact hkd.1.1
     .rw[V]at t;cases t;exact hkd.1.2
     .rw[Z]at t;cases t;exact hkd.2
 have H:∀{x d:World} {b:Nat},EU e w f i m x->OnlyB b x d->(b=f∨b=i∨b=m)->EU e w f i m d:=fun {x d b} h t N=>⟨h.1.trans (t.below _ (by rcases N with rfl|rfl|rfl;exact hb.1;exact hb.2.1;exact hb.2.2)),l3 h.2.1 (t.below 0 (e6 _)).size,fun k Y y z D=>(t.other k (by rcases N with rfl|rfl|rfl<;>assumption)).trans (h.2.2 k Y y z D)⟩;have aC:∀{x d:World},EU e w f i m x->QB x d->EU e w f i m d:=fun {x d} h s=>⟨via h.1 s,l3 h.2.1 s.size,fun k Y y z D=>(s.block k (h8 Y h.2.1)).trans (h.2.2 k Y y z D)⟩;have R:∀g g',mixL [p,q,r] (fun _ _=>undef) g 0 l=mixL [p,q,r] (fun _ _=>undef) g' 0 l:=fun g g'=>by apply aP;intro j;have y:=G2 [p,q,r] (fun _ _=>undef) g l 0 j;have z:=G2 [p,q,r] (fun _ _=>undef) g' l 0 j;rw[y,z]
 refine dO e (EU e w f i m) [p,q,r] (fun _ _=>undef) (fun L g x=>x.heap[f]?=some (if L p then z4 else y4)/\x.heap[i]?=some (if L q then z5 else y5)/\x.heap[m]?=some (if L r then z6 else y6)) (fun _=>I) hB (fun g=>by rw[R g (fun _=>Gh.zero)];exact hB') hS hN
  ⟨hw,r3 _,fun _ _ _ _ _=>rfl⟩ (fun x d h hb=>aC h hb) (fun x h=>h.1) ?_ ?_ (fun g u hu aB _ _=>by rw[R g (fun _=>Gh.zero)];exact hq u hu aB) (fun _ _ _ _=>rfl) ?_ ?_;·intro L h;rw[h p Qd,h q Qd,h r Qd];exact⟨h4,h5,h6⟩
 .rintro L L' g x d h ⟨y,z,D⟩ s;rw[h p Qd,h q Qd,h r Qd];exact⟨Zx s y,Zx s z,Zx s D⟩
 .intro j J o t L g x ⟨y,z,D⟩ G aA hL X aD;have hd:=O j J o t;simp only[ZAW,ZBg,Zyi]at J;rcases J with rfl|rfl|rfl;·rw[hL]at y;obtain⟨d,S,E,U⟩:=hs4 o t x G y;refine gF S ⟨H G E (.inl rfl),.inl ⟨hd,?_⟩⟩;rw[dP,ZJ (e0 n1),ZJ (e0 n2)];exact⟨U,E.keep (e0 e1) z,E.keep (e0 e2) D⟩
  .rw[hL]at z;obtain⟨d,S,E,U⟩:=hs5 o t x G z;refine gF S ⟨H G E (.inr (.inl rfl)),.inl ⟨hd,?_⟩⟩;rw[dP,ZJ n1,ZJ (e0 n3)];exact⟨E.keep e1 y,U,E.keep (e0 e3) D⟩
  .rw[hL]at D;obtain⟨d,S,E,U⟩:=hs6 o t x G D;refine gF S ⟨H G E (.inr (.inr rfl)),.inl ⟨hd,?_⟩⟩;rw[dP,ZJ n2,ZJ n3];exact⟨E.keep e2 y,E.keep e3 z,U⟩
 .rintro g x ⟨y,z,D⟩ G aA;simp only[Zyk]at y z D;exact C x G y z D
end
section
variable {P:Program}
def r6(o:Oper):List Nat:=(o.after.toList.filter (Region.binds .any)).map (·.on)
def BL(l:List Oper)(S:List Nat):List Nat:=S.foldl (fun d i=>match l[i]? with|some o=>(r6 o).foldl (fun a e=>if a.contains e then a else a++[e]) d|none=>d) S
def nM(l:List Oper):Nat->List Nat->List Nat|0,S=>S|n+1,S=>nM l n (BL l S)
def jT(l:List Oper)(e:List Nat)(d:Nat->List Nat):Bool:=e.all fun j=>match l[j]? with|some o=>(d j).all fun i=>(nM l l.length (r6 o)).contains i|none=>false
def qF{o:Oper} {L:Nat->Bool} (h:∀e∈o.after,Region.binds .any e=true->L e.on=true):∀i∈r6 o,L i=true:=by intro i p;obtain⟨e,m,rfl⟩:=b3.1 p;obtain⟨d,f⟩:=cD.1 m;exact h e (by simpa using d) f
def UQ{l:List Oper} {L:Nat->Bool} (y:∀(i:Nat)(o:Oper),l[i]?=some o->L i=true->∀e∈o.after,Region.binds .any e=true->L e.on=true) {S:List Nat} (C:∀i∈S,L i=true):∀i∈BL l S,L i=true:=by
 have p:∀(g d:List Nat),(∀i∈d,L i=true)->(∀i∈g,L i=true)->∀i∈g.foldl (fun a e=>if a.contains e then a else a++[e]) d,L i=true:=by intro g;induction g with|nil=>intro d h _ i m;exact h i m|cons e g ih=>
   intro d h s i m;refine ih _ (fun j f=>?_) (fun j f=>s j (by simp[f])) i m;dsimp only at f;split at f;·exact h j f
   .rcases s0.1 f with f|f;·exact h j f
    .rw[y2]at f;subst f;exact s _ Qd
 have r:∀(T d:List Nat),(∀i∈T,L i=true)->(∀i∈d,L i=true)->∀i∈T.foldl (fun d i=>match l[i]? with|some o=>(r6 o).foldl (fun a e=>if a.contains e then a else a++[e]) d|none=>d) d,L i=true:=by intro T;induction T with
  |nil=>intro d _ h i m;exact h i m|cons t T ih=>
   intro d u h i m;refine ih _ (fun j f=>u j (by simp[f])) (fun j f=>?_) i m;dsimp only at f;split at f;·rename_i o z;exact p _ _ h (qF (y t o z (u t Qd))) j f
   .exact h j f
 exact r S S C C
def vQ{l:List Oper} {L:Nat->Bool} (d:∀(i:Nat)(o:Oper),l[i]?=some o->L i=true->∀e∈o.after,Region.binds .any e=true->L e.on=true):∀(n:Nat) {S:List Nat},(∀i∈S,L i=true)->∀i∈nM l n S,L i=true|0,_,hS=>hS|n+1,_,hS=>vQ d n (UQ d hS)
def nN{l:List Oper} {g:List Nat} {d:Nat->List Nat} (h:jT l g d=true) {L:Nat->Bool} (p:∀(i:Nat)(o:Oper),l[i]?=some o->L i=true->∀e∈o.after,Region.binds .any e=true->L e.on=true) {j:Nat} (s:j∈g) {o:Oper} (t:l[j]?=some o)(u:∀e∈o.after,Region.binds .any e=true->L e.on=true):∀i∈d j,L i=true:=by have f:=bK.1 h j s;rw[t]at f;intro i r;have m:=bK.1 f i r;exact vQ p _ (qF u) i (by simpa using m)
def BM(d:Array Oper):Bool:=(List.range d.size).all fun i=>match d[i]? with|some o=>o.after.all fun e=>!Region.binds .any e||decide (e.on<i)|none=>true
def UR{g:Array Oper} (h:BM g=true)(i:Nat)(o:Oper)(e:Edge)(m:g[i]?=some o)(p:e∈o.after)(r:Region.binds .any e=true):e.on<i:=by have d:=bK.1 h i (y0.2 (iP m));rw[m]at d;have f:=vO.1 d e p;rw[r]at f;simpa using f
def I0{g:Array Oper} (H:∀(i:Nat)(o:Oper)(e:Edge),g[i]?=some o->e∈o.after->Region.binds .any e=true->e.on<i) {d:Array Bool} (y:d.size=g.size)(h:Region.ready .any g d=[]):∀j,j<g.size->d.getD j true=true:=by intro j;induction j using Nat.strongRecOn with|_ j ih=>intro m;cases u:d.getD j true with
  |true=>rfl|false=>exfalso;have:j∈Region.ready .any g d:=fI.2 ⟨u,g[j],y1 m,fun e t s=>by
    have p:=H j _ e (y1 m) t s;have f:=ih e.on p Qa;have r:e.on<d.size:=Qa
    simp[r]at f |-;exact f⟩;rw[h]at this;cases this
def T' {Q : Exit -> Act -> World -> Prop} {a0 : Act} {w : World} {l : List Oper} (n : Nat) (O : Oper) (hn : l.length = n + 1) (hz : l[n]? = some O)
    (hB : BM (l.take n).toArray = true) (hG : l.all (fun o => o.guard.isNone) = true) (hA : (List.range n).all (fun i => (nM l l.length (r6 O)).contains i) = true) (hE : O.after.all (fun e => !Region.binds .any e || decide (e.on < n)) = true)
    (h : wpAny P .any (l.take n).toArray (fun e a x => match e with | .normal => O.wp P a x (fun g E => Q .normal g E) Q | e => Q e a x) (l.take n).toArray.size (Array.replicate (l.take n).toArray.size false) a0 { w with drawn := w.drawn + 1 }) :
    wpAny P .any l.toArray Q l.toArray.size (Array.replicate l.toArray.size false) a0 { w with drawn := w.drawn + 1 } := by
  have H := UR hB
  have bA : (l.take n).length = n := Qo
  have aJ : ∀ (i : Nat) (o : Oper), l[i]? = some o -> o.guard = none := fun i o u => by
    have := bK.1 hG o (e7 u)
    simpa using this
  have G : ∀ i, i < n -> (l.take n).toArray[i]? = l.toArray[i]? := fun i D => by simp [qC D]
  have Z : ∀ i, n <= i -> (l.take n).toArray[i]? = none := fun i D => by simp [bE (show (l.take n).length <= i by omega)]
  have p : ∀ (m : Array Bool) (b d : Bool) (i : Nat), m.size = n -> i < n -> (m.push b).getD i d = m.getD i d := fun m b d i s D => by
    rw [fO, fO, cX Qa]
    simp [y1 (show i < m.size by omega)]
  have X : ∀ (m : Array Bool) (b d : Bool), m.size = n -> (m.push b).getD n d = b := fun m b d s => by
    rw [fO, <- s]
    simp
  have aQ : ∀ (m : Array Bool) (b : Bool) (i : Nat), m.size = n -> i < n -> (i ∈ Region.ready .any l.toArray (m.push b) ↔ i ∈ Region.ready .any (l.take n).toArray m) := fun m b i s D => by
    rw [fI, fI, p _ _ _ _ s D, G i D]
    constructor
    . rintro ⟨I, o, u, h2⟩
      refine ⟨I, o, u, fun e z N => ?_⟩
      have := H i o e ((G i D).trans u) z N
      rw [<- p m b false e.on s Qa]
      exact h2 e z N
    . rintro ⟨I, o, u, h2⟩
      refine ⟨I, o, u, fun e z N => ?_⟩
      have := H i o e ((G i D).trans u) z N
      rw [p m b false e.on s Qa]
      exact h2 e z N
  let Cl : Array Bool -> Prop := fun m => ∀ (i : Nat) (o : Oper), l[i]? = some o -> i < n -> m.getD i true = true -> ∀ e ∈ o.after, Region.binds .any e = true -> m.getD e.on true = true
  have aR : ∀ (f : Nat) (m : Array Bool) (a : Act) (x : World), m.size = n -> Cl m -> wpAny P .any (l.take n).toArray (fun e a x => match e with | .normal => O.wp P a x (fun g E => Q .normal g E) Q | e => Q e a x) f m a x -> wpAny P .any l.toArray Q (f + 1) (m.push false) a x := by
    have aG : ∀ (f : Nat) (m : Array Bool) (a : Act) (x : World), m.size = n -> (∀ i, i < n -> m.getD i true = true) -> O.wp P a x (fun g E => Q .normal g E) Q -> wpAny P .any l.toArray Q (f + 1) (m.push false) a x := by
      intro f m a x s hu hw
      have aO : n ∈ Region.ready .any l.toArray (m.push false) := by
        rw [fI]
        refine ⟨X _ _ _ s, O, by simpa using hz, fun e z N => ?_⟩
        have I := vO.1 hE e z
        rw [N] at I
        simp only [uN, S3, z1] at I
        rw [p _ _ _ _ s I]
        have := hu e.on I
        rw [fO, y1 Qa] at this |-
        exact this
      refine ⟨fun h0 => (by rw [h0] at aO; cases aO), fun i D => ?_⟩
      have t : i = n := by
        obtain ⟨I, o, u, -⟩ := fI.1 D
        have aL : i < l.length := by simpa using iP u
        rcases gA i n with h | h
        . rw [p _ _ _ _ s h, hu i h] at I
          cases I
        . omega
      subst t
      have V : (m.push false).setIfInBounds i true = m.push true := by
        apply cC
        intro j
        rw [bF, dZ, dZ]
        simp only [Array.size_push, s]
        by_cases h : i = j
        . subst h; simp [s]
        . simp [h, s, e0 h]
      have aT : wpAny P .any l.toArray Q f (m.push true) = fun g E => wpAny P .any l.toArray Q f (m.push true) g E := rfl
      have K : Region.ready .any l.toArray (m.push true) = [] := by
        rw [AW]
        intro j Y
        obtain ⟨I, o, u, -⟩ := fI.1 Y
        have aL : j < l.length := by simpa using iP u
        rcases gA j i with h | h
        . rw [p _ _ _ _ s h, hu j h] at I
          cases I
        . have : j = i := Qa
          subst this
          rw [X _ _ _ s] at I
          cases I
      have hK : ∀ g E, Q .normal g E -> wpAny P .any l.toArray Q f (m.push true) g E := fun g E h => by
        cases f with
        | zero => exact ⟨K, h⟩
        | succ f => exact ⟨fun _ => h, fun j Y => by rw [K] at Y; cases Y⟩
      unfold wpOp
      have aX : l.toArray[i]? = some O := by simpa using hz
      simp only [aX]
      have aW : Region.wanted O (yielded l.toArray a.tmps) = true := by unfold Region.wanted; rw [aJ i O hz]
      rw [Zc9 aW, V]
      exact .inl (vN hK hw)
    intro f
    induction f with
    | zero =>
      rintro m a x s aC ⟨hr, hq⟩
      exact aG 0 m a x s (fun i D => I0 H (by simp [s]; omega) hr i Qo) hq
    | succ f ih =>
      rintro m a x s aC ⟨hr, hq⟩
      by_cases K : Region.ready .any (l.take n).toArray m = []
      . exact aG (f + 1) m a x s (fun i D => I0 H (by simp [s]; omega) K i Qo) (hr K)
      . have aU : ∀ i, i ∈ Region.ready .any l.toArray (m.push false) -> i < n := by
          intro i D
          obtain ⟨I, o, u, h2⟩ := fI.1 D
          have aL : i < l.length := by simpa using iP u
          rcases gA i n with h | h
          . exact h
          . have t : i = n := Qa
            subst t
            exfalso
            obtain ⟨j, Y⟩ := IT _ K
            obtain ⟨h3, o3, S, -⟩ := fI.1 Y
            have aE : j < i := by
              rcases gA j i with h | h
              . exact h
              . rw [Z j h] at S; cases S
            have aY : o = O := by
              rw [show l.toArray[i]? = l[i]? by simp, hz] at u
              exact (D3 u).symm
            subst aY
            have h4 := bK.1 hA j (y0.2 aE)
            have U : ∀ e ∈ o.after, Region.binds .any e = true -> m.getD e.on true = true := fun e z N => by
              have C := h2 e z N
              have aA := vO.1 hE e z
              rw [N] at aA
              simp only [uN, S3, z1] at aA
              rw [p _ _ _ _ s aA] at C
              exact mD C
            have C := vQ (l := l) (L := fun k => m.getD k true) (fun k o' J hL e z N => by
              rcases gA k i with hk | hk
              . exact aC k o' J hk hL e z N
              . have bB : k < l.length := (M0.1 J).1
                obtain rfl : k = i := Qa
                rw [hz] at J
                obtain rfl : o = o' := D3 J
                exact U e z N) l.length (qF U) j (by simpa using h4)
            rw [fO, y1 Qa] at h3 C
            simp only [y'] at h3 C
            rw [h3] at C
            cases C
        refine ⟨fun h0 => ?_, fun i D => ?_⟩
        . exfalso
          obtain ⟨j, Y⟩ := IT _ K
          have aE : j < n := by
            obtain ⟨h3, o3, S, -⟩ := fI.1 Y
            rcases gA j n with h | h
            . exact h
            . rw [Z j h] at S; cases S
          have := (aQ m false j s aE).2 Y
          rw [h0] at this
          cases this
        . have t := aU i D
          have aD := (aQ m false i s t).1 D
          have R := hq i aD
          obtain ⟨-, o, u, -⟩ := fI.1 aD
          have aN : l.toArray[i]? = some o := (G i t).symm.trans u
          have hg := aJ i o (by simpa using aN)
          unfold wpOp at R |-
          simp only [u] at R
          simp only [aN]
          have aP : ∀ y, Region.wanted o y = true := fun y => by unfold Region.wanted; rw [hg]
          rw [Zc9 (aP _)] at R
          rw [Zc9 (aP _)]
          have V : (m.push false).setIfInBounds i true = (m.setIfInBounds i true).push false := by
            apply cC
            intro j
            rw [bF, dZ, dZ, bF]
            simp only [Array.size_push, AZ, s]
            by_cases h : i = j
            . subst h; simp [s, t, Nat.lt_succ_of_lt t, Nat.ne_of_lt t]
            . simp [h]
          rw [V]
          have aI : Cl (m.setIfInBounds i true) := by
            intro i' o' J aS hL e z aH
            have aZ : m.getD e.on true = true := by
              by_cases aK : i = i'
              . subst aK
                obtain ⟨-, o2, aM, aB⟩ := fI.1 aD
                rw [G i t] at aM
                have e2 : l[i]? = some o2 := by simpa using aM
                rw [J] at e2
                obtain rfl : o' = o2 := D3 e2
                exact mD (aB e z aH)
              . rw [gD true aK] at hL
                exact aC i' o' J aS hL e z aH
            by_cases U : i = e.on
            . rw [U, p9]
            . rw [gD true U]; exact aZ
          have aF : ∀ g E, wpAny P .any (l.take n).toArray (fun e a x => match e with | .normal => O.wp P a x (fun g E => Q .normal g E) Q | e => Q e a x) f (m.setIfInBounds i true) g E -> wpAny P .any l.toArray Q (f + 1) ((m.setIfInBounds i true).push false) g E := fun g E h => ih _ g E (by simp [s]) aI h
          rcases R with R | ⟨R, h7⟩
          . left
            refine vN aF ?_
            unfold Oper.wp at R |-
            generalize (execOp a.eval o).run P x = r at *
            cases r with
            | ok nx w' =>
              cases nx with
              | enter f' args => exact (show Calls P f' args w' _ from R).mono fun e bD z => by cases e <;> exact z
              | _ => exact R
            | halt v w' => cases v <;> exact R
          . right
            exact ⟨R, h7⟩
  have aV : (Array.replicate (l.take n).toArray.size false).push false = Array.replicate l.toArray.size false := by
    rw [<- q7]
    congr 1
    simp
    omega
  have := aR _ _ _ _ Qo (fun i o u D hL => by
    rw [fO, y1 Qo] at hL
    simp at hL) h
  rw [aV] at this
  have e : (l.take n).toArray.size + 1 = l.toArray.size := Qo
  rwa [e] at this
def zA{K:Act->World->Prop} {Q:Exit->Act->World->Prop} {o:Oper} {a:Act} {w:World} (v:Value)(h:(execOp a.eval o).run P w=.ok (.value v) w)(d:K (a.put o.dst v) w):o.wp P a w K Q:=by unfold Oper.wp;rw[h];exact d
def US{K:Act->World->Prop} {Q:Exit->Act->World->Prop} {o:Oper} {a:Act} {w:World} (p q:Operand)(t:TypeId)(s:o.op=.store t p q)(b:Nat)(e cs:List Value)(T:TypeId)(G:a.eval p=.pointer (some b))(hq:a.eval q=.agg e.toArray)(d:(sizeOf t).run P w=.ok e.length w)(C:w.heap[b]?=some (.cells cs.toArray T))(r:cs.length=e.length)(m:∀u∈e,u.oneCell'=true)(h:∀g,g.heap[b]?=some (.cells e.toArray T)->w.grownBy g (some b)->g.heap.size=w.heap.size->K (a.put o.dst undef) g):o.wp P a w K Q:=by
 obtain⟨f,y,z,D,E⟩:=vI (P:=P) b T e 0 cs w C Qa m;unfold Oper.wp execOp;have i:(storeVar t ⟨b,0,none⟩ (.agg e.toArray)).run P w=.ok () f:=by unfold storeVar;simp only[aB,d,aA,Value.cells,A8,ne_eq,U9,Zyj];exact y
 simp only[s,Instr.storeAt,Instr.sureAddr,G,hq,aB,aC,aA,i];refine h f ?_ D E;rw[z];congr 2;apply D1;simp[r]
end
section
variable {P:Program}
def qG{K i:Value->World->Prop} {r:Result Next} (h:bO P K r)(d:∀v x,K v x->i v x):bO P i r:=by cases r with
 |ok n x=>
  cases n<;>simp only[bO]at h |-;case value v=>exact d _ _ h
  case skip=>exact d _ _ h
  case enter f args=>exact h.mono fun e p ⟨v,m,o⟩=>⟨v,m,d _ _ o⟩|halt hh x=>exact h
def ET(d:List Nat)(f:Nat->Nat)(L:Nat->Bool)(j:Nat):Bool:=d.any fun k=>f k==j&&L k
def X5{Q:Exit->Act->World->Prop} {a0:Act} {w:World} {l:List Oper} (w0:World)(C:World->Prop)(r m:List Nat)(y:Nat->Nat)(N:Nat->List Nat)(mk:Nat->Gh->Value)(R:Nat->Bool->(Nat->Gh)->World->Prop)(Own:Nat->Gh->Nat->Prop)(af:(Nat->Gh)->Act)(hB:bL l.toArray=true)(hB':∀g,bL (mixL (r++m) mk g 0 l).toArray=true)(hS:Region.noSelect l.toArray=true)(hN:spB l.toArray (r++m)=true)(hnd:(r++m).Nodup)(htg:∀k∈m,y k∈r/\y k∈N k)(hinj:∀k∈m,∀k'∈m,y k=y k'->k=k')(hD:jT l (r++m) N=true)(hkd:m.all (fun k=>match l[k]? with|some o=>o.dst.isNone|none=>false)=true)(hC0:C w)(hCs:∀x D,C x->QB x D->C D)(hCw:∀x,C x->QB w0 x)(hCz:∀x,C x->w.heap.size<=x.heap.size)(hCo:∀x D b,C x->OnlyB b x D->w.heap.size<=b->C D)(hRb:∀j f g x D,R j f g x->QB x D->R j f g D)(hRg:∀i f g j h x,j≠i->j∉N i->(f=true->∀k∈m,y k=i->j∉N k)->R i f g x->R i f (upd g j h) x)(hRo:∀i f g b x D,C x->R i f g x->OnlyB b x D->w.heap.size<=b->¬Own i (g i) b->R i f g D)(hmake:∀j∈r,∀o,l[j]?=some o->∀(g:Nat->Gh)(x:World),C x->(∀i∈N j,i∈r->∃f,R i f g x/\∀b,Own i (g i) b->w.heap.size<=b/\b<x.heap.size)->bO P (fun v D=>∃h,v=mk j h/\R j false (upd g j h) D/\QB x D/\∀b,Own j h b->x.heap.size<=b/\b<D.heap.size) ((execOp (af g).eval o).run P x))(hstore:∀k∈m,∀o,l[k]?=some o->∀(g:Nat->Gh)(x:World),C x->R (y k) false g x->(∀i∈N k,i∈r->i≠y k->∃f,R i f g x)->∃D b,(execOp (af g).eval o).run P x=.ok .skip D/\Own (y k) (g (y k)) b/\OnlyB b x D/\R (y k) true g D)(hq:∀g u,C u->(∀(x:Grew u)(b o:Nat),b<u.heap.size->x.val.cell? ⟨b,o,none⟩=u.cell? ⟨b,o,none⟩)->Hid (∀x:Grew u,QB w0 x.val)->Hid (∀x:Grew u,C x.val)->wpQuiet P (mixL (r++m) mk g 0 l).toArray (fun w'=>∃x:Grew u,w'=x.val) (fun a'=>a'=af g) (mixL (r++m) mk g 0 l) a0)(hind:∀j∈r++m,∀g h,bN (bS l.toArray j 0 l []) 0 (af g).tmps.toList=bN (bS l.toArray j 0 l []) 0 (af (upd g j h)).tmps.toList)(hend:∀(g:Nat->Gh)(x:World),C x->(∀j∈r,R j (m.any fun k=>y k==j) g x/\(∀b,Own j (g j) b->w.heap.size<=b/\b<x.heap.size)/\∀i∈r,i≠j->∀b,Own j (g j) b->¬Own i (g i) b)->Q .normal (af g) x):wpAny P .any l.toArray Q l.toArray.size (Array.replicate l.toArray.size false) a0 {w with drawn:=w.drawn+1}:=by
 have aN:∀k∈m,∀o,l[k]?=some o->o.dst=none:=fun k hk o ho=>by have:=bK.1 hkd k hk;rw[ho]at this;simpa using this
 have aC:∀j∈r,j∉m:=fun j X J=>by obtain⟨-,-,h⟩:=qD.1 hnd;exact h j X j J rfl
 have aK:∀(L:Nat->Bool)(j k:Nat),j∈r->ET m y (bV L j) k=ET m y L k:=fun L j k X=>by
  unfold ET;rw[dE,h0,h0];constructor;·rintro⟨s,J,h⟩;have:s≠j:=fun e=>aC j X (e▸J);rw[ZJ this]at h;exact⟨s,J,h⟩
  .rintro⟨s,J,h⟩;have:s≠j:=fun e=>aC j X (e▸J);exact⟨s,J,by rw[ZJ this];exact h⟩
 refine dO w0 C (r++m) mk (fun L g x=>∀j∈r,L j=true->R j (ET m y L j) g x/\(∀b,Own j (g j) b->w.heap.size<=b/\b<x.heap.size)/\∀i∈r,i≠j->L i=true->∀b,Own j (g j) b->¬Own i (g i) b) af hB hB' hS hN hC0 hCs hCw ?_ ?_ hq hind ?_ ?_;·intro L h j X hL;rw[h j (sY _ X)]at hL;cases hL
 .intro L L' g x D h hJ hb j X hL;have hf:ET m y L' j=ET m y L j:=by
   unfold ET;rw[dE,h0,h0];constructor;·rintro⟨s,J,K⟩;rw[h s (FK _ J)]at K;exact⟨s,J,K⟩
   .rintro⟨s,J,K⟩;exact⟨s,J,by rw[h s (FK _ J)];exact K⟩
  rw[h j (sY _ X)]at hL;obtain⟨U,V,h3⟩:=hJ j X hL;rw[hf];exact⟨hRb _ _ _ _ _ U hb,fun b p=>⟨(V b p).1,h8 (V b p).2 hb.size⟩,fun i H z E=>h3 i H z (by rw[<-h i (sY _ H)];exact E)⟩
 .intro j X o ho L g x hJ hC aR hL aD aA;have aH:=nN hD aA X ho aD;have aG:∀i∈r++m,L i=true->∀d∈N i,L d=true:=fun i H E d hd=>by
   have:∃o,l[i]?=some o:=by have U:=bK.1 hD i H;cases V:l[i]? with
    |none=>rw[V]at U;cases U|some o=>exact⟨o,rfl⟩
   obtain⟨o',aE⟩:=this;exact nN hD aA H aE (aA i o' aE E) d hd
  rcases s0.1 X with aO|I
  .have aV:=hmake j aO o ho g x hC fun i H S=>by obtain⟨U,V,-⟩:=hJ i S (aH i H);exact⟨_,U,V⟩
   refine qG aV ?_;rintro v D ⟨h,rfl,hR,hb,hO⟩;refine⟨hCs _ _ hC hb,.inr ⟨h,rfl,fun i H E=>?_⟩⟩;rw[aK L j i aO];by_cases O:i=j
   .subst O;have aI:ET m y L i=false:=by unfold ET;rw[bM];intro k hk Y;simp only[aY,bJ]at Y;have:=aG k (FK _ hk) Y.2 (y k) (htg k hk).2;rw[Y.1,hL]at this;cases this
    rw[aI];refine⟨hR,fun b p=>?_,fun Z G z t b p=>?_⟩;·rw[Z4]at p;have:=hO b p;exact⟨l3 (hCz x hC) this.1,this.2⟩
    .rw[Z4]at p;rw[upd_ne z];intro aF;rw[ZJ z]at t;have U:=(hO b p).1;have V:=((hJ Z G t).2.1 b aF).2;omega
   .rw[ZJ O]at E;obtain⟨U,V,h3⟩:=hJ i H E;refine⟨hRg i _ g j h D (e0 O) (fun hd=>?_) (fun hf k hk aU hd=>?_) (hRb _ _ _ _ _ U hb),fun b p=>?_,fun Z G z t b p=>?_⟩;·have:=aG i (sY _ H) E j hd;rw[hL]at this;cases this
    .have aS:L k=true:=by unfold ET at hf;obtain⟨k',aT,Y⟩:=h0.1 hf;simp only[aY,bJ]at Y;have:=hinj k' aT k hk (Y.1.trans aU.symm);rw[<-this];exact Y.2
     have:=aG k (FK _ hk) aS j hd;rw[hL]at this;cases this
    .rw[upd_ne O]at p;have:=V b p;exact⟨this.1,h8 this.2 hb.size⟩
    .rw[upd_ne O]at p;by_cases aB:Z=j;·subst aB;rw[Z4];intro aF;have U:=(hO b aF).1;have aX:=(V b p).2;omega
     .rw[upd_ne aB];rw[ZJ aB]at t;exact h3 Z G z t b p
  .obtain⟨aQ,aW⟩:=htg j I;have aL:=aH _ aW;obtain⟨m1,m2,m3⟩:=hJ _ aQ aL;have aI:ET m y L (y j)=false:=by unfold ET;rw[bM];intro k hk Y;simp only[aY,bJ]at Y;have:=hinj k hk j I Y.1;rw[this,hL]at Y;cases Y.2
   rw[aI]at m1;obtain⟨D,b,r1,r2,r3,r4⟩:=hstore j I o ho g x hC m1 fun i H S z=>⟨_,(hJ i S (aH i H)).1⟩;have aM:=m2 b r2;have aP:=(r3.below 0 (e6 _)).size;refine gF r1 ⟨hCo _ _ _ hC r3 aM.1,.inl ⟨aN j I o ho,fun i H E=>?_⟩⟩;have O:i≠j:=fun e=>aC i H (e▸I);rw[ZJ O]at E;by_cases S:i=y j
   .subst S;have aJ:ET m y (bV L j) (y j)=true:=by unfold ET;rw[h0];exact⟨j,I,by rw[dP];simp⟩
    rw[aJ];refine⟨r4,fun b' p=>?_,fun Z G z t=>?_⟩;·have:=m2 b' p;exact⟨this.1,h8 this.2 aP⟩
    .rw[ZJ (show Z≠j from fun e=>aC Z G (e▸I))]at t;exact m3 Z G z t
   .have aJ:ET m y (bV L j) i=ET m y L i:=by
     unfold ET;rw[dE,h0,h0];constructor;·rintro⟨s,J,K⟩;simp only[aY,bJ]at K;have:s≠j:=fun e=>S (by rw[<-K.1,e]);rw[ZJ this]at K;exact⟨s,J,by simp[K.1,K.2]⟩
     .rintro⟨s,J,K⟩;simp only[aY,bJ]at K;have:s≠j:=fun e=>by rw[e,hL]at K;cases K.2
      exact⟨s,J,by rw[ZJ this];simp[K.1,K.2]⟩
    rw[aJ];obtain⟨U,V,h3⟩:=hJ i H E;refine⟨hRo _ _ _ b _ _ hC U r3 aM.1 (fun aE=>h3 (y j) aQ (e0 S) aL b aE r2),fun b' p=>?_,fun Z G z t=>?_⟩;·have:=V b' p;exact⟨this.1,h8 this.2 aP⟩
    .rw[ZJ (show Z≠j from fun e=>aC Z G (e▸I))]at t;exact h3 Z G z t
 .intro g x hJ hC aR;refine hend g x hC fun j X=>?_;obtain⟨U,V,h3⟩:=hJ j X rfl;refine⟨?_,V,fun i H z=>h3 i H z rfl⟩;have:ET m y (fun _=>true) j=m.any fun k=>y k==j:=by simp[ET]
  rw[<-this];exact U
end
end Go.Proofs
namespace Go.Proofs
def vR:∀(n:Nat)(l:List Int),l.length<=n->dotL (List.replicate n 1) l=l.sum|n,[],_=>by cases n<;>simp[List.replicate,dotL]|0,_::_,h=>by simp at h|n+1,x::l,h=>by simp only[l8,dotL,aF];rw[vR n l (by simpa using h)];omega
def jU(n i k:Nat)(d:k<n):(hU n i).getD k 0=if k=i then 1 else 0:=by simp[hU,h6,aQ d]
def UT(m:List Int)(i:Nat):wsum m (fun k=>if k=i then 1 else 0)=m.getD i 0:=by induction m generalizing i with
 |nil=>simp[wsum]|cons x m ih=>cases i with
  |zero=>
   have:wsum m (fun k=>if k+1=0 then (1:Int)else 0)=0:=by rw[show (fun k:Nat=>if k+1=0 then (1:Int)else 0)=fun _=>0 by funext k;simp];exact RS m
   simp only[wsum,this];simp|succ i=>have:=ih i;simp only[wsum];rw[show (fun k:Nat=>if k+1=i+1 then (1:Int)else 0)=fun k=>if k=i then 1 else 0 by funext k;simp];rw[this];simp
def BN{n i:Nat} {l:List Int} (h:l.length<=n):dotL (hU n i) l=l.getD i 0:=by rw[H8 _ _ (by simp[hU];exact h),<-UT l i];apply RU;intro k x d _;exact jU n i k (h8 (M0.1 d).1 h)
structure MixOf (np:Nat)(es:List Ex)(z t:List Nat)(m:List Int)(d:Int):Prop where
 len:m.length=np
 den:0<d
 nn:∀x∈m,0<=x
 sum:m.sum=d
 zero:∀i∈z,m.getD i 0=0
 per:∀x∈es,dotL x.1 m<=x.2*d
 tight:∀i∈t,∀x,es[i]?=some x->dotL x.1 m=x.2*d
def I1(g:Int):∀m:List Int,(m.map (g*·)).sum=g*m.sum|[]=>by simp|x::m=>by simp only[w6,aF];rw[I1 g m];grind
def UU(g:Int)(m:List Int)(i:Nat):(m.map (g*·)).getD i 0=g*m.getD i 0:=by simp only[h6,k2];cases m[i]?<;>simp
def qH{e:Nat} {j:List Ex} {z t:List Nat} {m:List Int} {d:Int} (h:hH e j z t=some (m,d))(X:1<=e)(v:e<=5)(H:∀x∈j,x.1.length=e)(n:∀i∈z,i<e)(Z:∀i∈t,i<j.length)(q:z.length+t.length+1=e):MixOf e j z t m d:=by
 unfold hH at h;split at h;·cases h
 rename_i l c Y;split at h;·cases h
 rename_i I;split at h;·cases h
 rename_i s;have J:(hV e j z t).length=e:=by simp[hV];omega
 have K:∀k∈hV e j z t,k.length=(hV e j z t).length+1:=by
  intro k Q;rw[J];simp only[hV,ZAW,s0,b3]at Q;rcases Q with rfl|⟨i,y,rfl⟩|⟨i,y,rfl⟩;·simp
  .simp[hU]
  .have r:j.getD i default∈j:=by rw[h6,h' (Z i y)];exact D2 _
   rw[hK,H _ r];rfl
 obtain⟨E,o,p⟩:=jG Y Qa K;rw[J]at o p;have w:0<gcdL 0 (c::l):=oP c Qd Qa;obtain⟨-,G⟩:=iB (c::l) 0;generalize gcdL 0 (c::l)=g at*;have u:(0:Int)<g:=Qa
 obtain⟨rfl,rfl⟩:_/\_:=by simpa using h
 have S:=RV u (l:=l) fun x r=>G x (by simp[r]);have R:(g:Int)*(c / g)=c:=zK (G c Qd);have D:(l.map (· / (g:Int))).length=e:=by simpa using o
 generalize l.map (· / (g:Int))=m at*;generalize c / (g:Int)=d at*;subst S R;have f:∀{a b:Int},(g:Int)*a=g*b->a=b:=fun h=>Int.eq_of_mul_eq_mul_left Qa h;refine⟨D,?_,?_,?_,?_,?_,?_⟩;·exact Int.lt_of_mul_lt_mul_left (a:=(g:Int)) (by simpa using E) Qa
 .intro x r;simp only[h0,b3,z1,not_exists,not_and]at I;have:=I (g*x) ⟨x,r,rfl⟩;have U:0<=(g:Int)*x:=Qa
  exact RP (a:=(g:Int)) (by simpa using U) u
 .have:=p (List.replicate (e+1) 1) (by simp[hV]);rw[vR _ _ (by rw[o];omega),I1]at this;have N:(List.replicate (e+1) (1:Int)).getD e 0=1:=by simp[h6]
  rw[N]at this;exact f Qa
 .intro i y;have:=p (hU (e+1) i) (by simp only[hV,ZAW,s0,b3];exact .inr (.inl ⟨i,y,rfl⟩));rw[BN (by rw[o];omega),jU _ _ _ Qa,q' (by have:=n i y;omega),UU]at this;exact f Qa
 .intro x r;simp only[h0,not_exists,not_and]at s;have:=s x r;simp only[gN,A0,Bool.not_eq_false,Int.not_le,jK,z1]at this;rw[GB]at this;have V:(g:Int)*dotL x.1 m<=g*(x.2*d):=Qn
  exact RP V u
 .intro i y x r;have O:j.getD i default=x:=by rw[h6,r];rfl
  have:=p (x.1++[x.2]) (by simp only[hV,ZAW,s0,b3];exact .inr (.inr ⟨i,y,by rw[O]⟩));have L:=H x (e7 r);rw[zW _ _ _ (by rw[o,L]),GB]at this;have N:(x.1++[x.2]).getD e 0=x.2:=by simp[h6,<-L]
  rw[N]at this;exact f Qn
def Asc.nodup{b:Nat}:∀{l:List Nat} {a:Nat},Asc a b l->l.Nodup|[],_,_=>jL|x::t,a,h=>eO.2 ⟨fun d=>by have:=(Asc.lt h.2.2 x d).1;omega,h.2.2.nodup⟩
def inR(k n x:Nat):Bool:=decide (k<=x)&&decide (x<k+n)
def UW(k n x:Nat):(if inR k (n+1) x=true then 1 else 0)=(if (x==k)=true then 1 else 0)+if inR (k+1) n x=true then 1 else 0:=by simp only[inR,aY,z1,bJ];split<;>split<;>split<;>omega
def I2(k n:Nat):∀z:List Nat,z.countP (inR k (n+1))=z.count k+z.countP (inR (k+1) n)|[]=>rfl|x::z=>by have:=I2 k n z;have d:=UW k n x;rw[tF,tF,List.count_cons,this];omega
def M8(es:List Ex) {z t:List Nat} (i:z.Nodup):∀(h:List Int)(k:Nat),(proofRows es z t k h).length+z.countP (inR k h.length)=h.length
 |[],k=>by
  have:z.countP (inR k ([]:List Int).length)=0:=by rw[List.countP_eq_zero];intro x _;simp[inR]
  rw[this];rfl|w::h,k=>by
  have f:=M8 es i h (k+1) (z:=z) (t:=t);rw[L',I2,i.count];unfold proofRows;by_cases d:k∈z;·simp only[Zc9 d];omega
  .simp only[q' d,L'];omega
def vS(c:List Ex) {z t:List Nat}:∀(b:List Int)(d j:Nat)(w:Int),b[j]?=some w->d+j∉z->proofRow c t (d+j) w∈proofRows c z t d b
 |[],_,j,w,h,_=>by simp at h|v::b,d,0,w,h,hz=>by simp at h;subst h;unfold proofRows;rw[q' (by simpa using hz)];exact eN ..|v::b,d,j+1,w,h,hz=>by
  have:=vS c (t:=t) b (d+1) j w (by simpa using h) (by rwa [show d+1+j=d+(j+1)by omega]);rw[show d+1+j=d+(j+1)by omega]at this;unfold proofRows;split;·exact this
  .exact A5 _ this
def HB(es:List Ex) {z t:List Nat}:∀(i:List Int)(k:Nat),∀d∈proofRows es z t k i,d.length=t.length+2
 |[],k,d,h=>by cases h|v::i,k,d,h=>by
  unfold proofRows at h;split at h;·exact HB es i _ d h
  .rcases ZAW.1 h with rfl|h;·simp[proofRow]
   .exact HB es i _ d h
def sO(a:List Ex)(l:List Int)(c:Nat):Nat->List Nat->Int|_,[]=>0|k,i::t=>l.getD (k+1) 0*(a.getD i default).1.getD c 0+sO a l c (k+1) t
def s5(l:List Int):∀(t:List Nat)(k:Nat)(W:List Int),(putW l k t W).length=W.length|[],_,_=>rfl|i::t,k,W=>by unfold putW;rw[s5 l t];simp
def I3(c:Nat)(v:Int):∀(a:List Ex)(W:List Int)(i:Nat),i<a.length->i<W.length->putsL a (W.set i v) c=putsL a W c+(v-W.getD i 0)*(a.getD i default).1.getD c 0|[],_,_,h,_=>by simp at h|_::_,[],_,_,h=>by simp at h|x::a,w::W,0,_,_=>by simp only[List.set_cons_zero,putsL,e3];grind|x::a,w::W,i+1,h,h'=>by simp only[List.set_cons_succ,putsL,hR];rw[I3 c v a W i (by simpa using h) (by simpa using h')];omega
def tO(b:List Ex)(l:List Int)(c:Nat):∀(t:List Nat)(k:Nat)(W:List Int),W.length=b.length->t.Nodup->(∀i∈t,i<b.length)->(∀i∈t,W.getD i 0=0)->putsL b (putW l k t W) c=putsL b W c+sO b l c k t|[],k,W,_,_,_,_=>by simp[putW,sO]|i::t,k,W,hW,hnd,ht,h0=>by obtain⟨h,d⟩:=eO.1 hnd;unfold putW;rw[tO b l c t (k+1) _ (by simpa using hW) d (fun j f=>ht j (A5 _ f)) (fun j f=>by rw[h6,jS (by rintro rfl;exact h f),<-h6];exact h0 j (A5 _ f)),I3 c _ b W i (ht i (eN ..)) (by rw[hW];exact ht i (eN ..)),h0 i (eN ..)];simp only[sO,Int.sub_zero];omega
def vT(c n:Nat):∀b:List Ex,putsL b (List.replicate n 0) c=0:=by induction n with|zero=>intro b;cases b<;>simp[putsL]|succ n ih=>intro b;cases b with|nil=>simp[putsL]|cons x b=>simp only[l8,putsL];rw[ih b];simp
open Tryz
open Go.RowKit
def BO{a:List En} {b:Nat} (h:RightE a b)(i c:Nat):(((exs a).getD i default).1.getD c 0).natAbs<=20:=by rw[h6 (l:=exs a)];cases d:(exs a)[i]? with|none=>simp[default,instInhabitedProd]|some x=>exact(h.exs_co x (e7 d)).get c
def tP{es:List En} {o:Nat} (h:RightE es o) {z t:List Nat}:∀(a:List Int)(k:Nat),ZN 400 a->c9 (proofRows (exs es) z t k a)
 |[],_,_,row,f=>by cases f|w::a,k,hs,row,f=>by
  unfold proofRows at f;have m:=tP h (z:=z) (t:=t) a (k+1) fun x d=>hs x (by simp[d]);split at f;·exact m row f
  .rcases ZAW.1 f with rfl|f
   .intro x d;unfold proofRow at d;rcases ZAW.1 d with rfl|d;·decide
    .rcases s0.1 d with d|d;·obtain⟨i,-,rfl⟩:=b3.1 d;rw[Int.natAbs_neg];exact l3 (BO h i k) Qc
     .rw[y2]at d;subst d;exact hs x Qd
   .exact m row f
def sP(q:Option Prf)(a d:Nat)(e:Ending)(f:World):Prop:=match q with|none=>e=.returned (.tuple #[.agg #[(0:Int),(0:Int),.slice none 0 0],false])|some p=>∃A c,e=.returned (.tuple #[.agg #[p.den,p.lev,.slice A a c],true])/\f.ownsRow d 3 1 (.slice A a c) a (p.W.map (Value.int .i64))
def UX{P:Program} {f:Operand->Value} {o:Oper} {t:TypeId} {p q:Operand} {v r:Value} {x d:World} (i:o.op=.makeSlice t p q)(hp:f p=v)(hq:f q=v)(h:(Instr.makeSlice t v v).run P x=.ok r d):(execOp f o).run P x=.ok (.value r) d:=by unfold execOp;rw[i];simp only[hp,hq,aB,h,aA,aC]
def _root_.Qw{P:Prop}(h:P:=by intro a b;simp only[ZAW,ZBg,Zyi]at b;rcases b with rfl|rfl|rfl<;>(intro c d;kernel_rfl)):P:=h
def _root_.Qx{P:Prop}(h:P:=by intro a b;simp only[ZAW,ZBg,Zyi]at b;rcases b with rfl|rfl|rfl|rfl<;>(intro c d;kernel_rfl)):P:=h
def UY(pA eA tA wA:Option Addr)(zv:Value)(np pc B ec F tc wc:Nat)(es:List En)(C:List Int)(z t:List Nat)(w:World)(hR:RightE es np)(hE:h7 w eA es)(eL:es.length=B)(hT:At 1 Zc w tA (natZ t))(eZ:t.length=F)(hW:At 1 Zc w wA C)(fF:C.length=np)(h5:np<=5)(fG:ZN 400 C)(hz:∀i∈z,i<np)(fK:z.Nodup)(ht:∀i∈t,i<B)(cY:t.Nodup)(fM:z.length+t.length+1=np)(fL:zv.oneCell'=true):Calls prog 61 #[.agg (Z3 (.slice pA np pc) (.slice eA B ec) zv (.slice tA F tc) z t).toArray,.slice wA np wc] w fun e w'=>sP (gI (exs es) C z t) B w.heap.size e w'/\QB w w':=by
 obtain⟨BA,dC⟩:=Qu ((Z3 (.slice pA np pc) (.slice eA B ec) zv (.slice tA F tc) z t).toArray);have fP:=hR.n8;have fT:=i' fun W (hb:QB w W) k (hk:k<F)=>e' (hT.below hb) (k:=k) (by rw[N3];omega);have fW:=i' fun W (hb:QB w W) k (hk:k<np)=>e' (hW.below hb) (k:=k) Qa;have fE:=i' fun W (hb:QB w W) i c (hi:i<B)(hc:c<np)=>(by
  have dK:i<es.length:=Qa
  obtain⟨b,o,hA,bJ,gB⟩:=(hE.below hb).1 i _ (h' dK);have Z:=D2 dK;obtain⟨h1,h2,-⟩:=hR.co _ Z;obtain⟨b2,o2,hA2,eQ,gA⟩:=e' ((hE.below hb).2 _ Z) (k:=c) Qa;refine⟨es[i],b,o,b2,o2,hA,bJ,eQ,h1,?_,gA,h2.get c,x2 (h' dK)⟩;have:=gB 1 _ rfl;rw[hA2]at this;exact this:∃x:En,∃b o b2 o2,eA=some ⟨b,o,none⟩/\b<W.heap.size/\b2<W.heap.size/\x.co.length=np/\W.cell? ⟨b,o+i*3+1,none⟩=some (.slice (some ⟨b2,o2,none⟩) x.co.length x.c)/\W.cell? ⟨b2,o2+c,none⟩=some (.int .i64 (x.co.getD c 0))/\(x.co.getD c 0).natAbs<=20/\(exs es).getD i default=(x.co,x.mo));have cG:=i' hR;have fO:=i' hE;have I:=i' eL;have U:=i' eZ;have aD:=i' fF;have cC:=i' fG;have gQ:=i' hz;have eY:=i' ht;have dA:=i' fK;have gL:=i' cY;have fN:=i' fM;have gX:=i' fL;have aE:=i' dC;have hY:F<=4:=Qa
 rw[dC];obtain⟨i0,hi,dV,dW,dX⟩:=x0 info3;obtain⟨i1,hj,gE,gF,cI⟩:=x0 info31;obtain⟨X,hX⟩:=Qu (exs es);have aS:=i' hX;rw[hX]at fE |-;clear hR hE eL eZ fF fG hz ht fK cY fM fL dC hT hW hX;go_enter func61,ntmps61;go_wp2;go_loopw [6,24] (fun v6 i wr=>∃(k:Nat)(xs:List IR),k<=np/\i=.int .i64 k/\Hid (RowsOwn wr (w.heap.size+2) v6 xs/\xs.map IR.l=proofRows X z t 0 (C.take k))/\wr.heap[w.heap.size]?=some (.cells BA 114)/\wr.heap[w.heap.size+1]?=some (.cells #[(0:Int),(0:Int),.slice none 0 0] 41)/\QB w wr)(fun _ i _=>np-(intOf i).toNat);case atStart=>exact⟨0,[],e6 _,rfl,⟨RowsOwn.nil _ _,by simp[proofRows]⟩,Qs,Qs,Qi⟩
 case round=>
  obtain⟨wo,gN⟩:∃wo,wo=wr:=⟨_,rfl⟩;subst gN;obtain⟨k,xs,hk,rfl,r,M0,M1,aU⟩:=hrel;have s0:=ZE M0;have s1:=ZE M1;have MB:wo.heap[w.heap.size]?=some (.cells (Z3 (.slice pA np pc) (.slice eA B ec) zv (.slice tA F tc) z t).toArray 114 (0,0)):=by rw[aE.out];exact M0
  have bB:=C4 MB (k:=1) rfl;have aN:=C4 MB (k:=3) rfl;by_cases bJ:k<np
  .have eN:(k:Int)<(np:Int):=Qa
   have hM:(k:Int)<5:=Qa
   obtain⟨bw,ow,rfl,eK,cw⟩:=fW.out wo aU k bJ;obtain⟨u,K⟩:∃u,C[k]?=some u:=⟨_,h' (by rw[aD.out];exact bJ)⟩;have fA:C.getD k 0=u:=by rw[h6,K];rfl
   rw[fA]at cw;have cz:=C4 MB (nL (.slice pA np pc) (.slice eA B ec) zv (.slice tA F tc) z t k Qa);have cM:=i' (show proofRows X z t 0 (C.take (k+1))=proofRows X z t 0 (C.take k)++if k∈z then []else [proofRow X t k u]by rw[r4,K];have:=vP X z t (C.take k) 0 u;rw[y5,U2 (by rw[aD.out];omega),w0]at this;exact this);have gP:Hid (xs.length<=k):=i' (by have h1:=D1 List.length r.out.2;rw[B3]at h1;have h2:=M8 X (t:=t) dA.out (C.take k) 0;rw[y5,U2 (by rw[aD.out];omega)]at h2;omega);clear K fA MB;by_cases bI:k∈z
   .have bV:decide (k∈z)=true:=by simpa using bI
    rw[bV]at cz;have cL:=i' (show RowsOwn wo (w.heap.size+2) u6 xs/\xs.map IR.l=proofRows X z t 0 (C.take (k+1))from⟨r.out.1,by rw[cM.out,Zc9 bI,W5];exact r.out.2⟩);clear bI r cM;go_wp2;go_roundw;case rel=>exact⟨k+1,xs,Qa,Qj,cL.out,M0,M1,aU⟩
    case measure=>exact Qv
   .have bV:decide (k∈z)=false:=by simpa using bI
    rw[bV]at cz;have cL:=i' (show proofRows X z t 0 (C.take (k+1))=xs.map IR.l++[proofRow X t k u]from by rw[cM.out,q' bI,r.out.2]);have aM:=i' r.out.1;clear bI r cM;go_wp2;go_loopw [9,37] (fun v9 j wi=>∃q:Nat,q<=F/\j=.int .i64 q/\wi.ownsRow wo.heap.size 3 1 v9 (q+1) ((E8 X t k q).map (Value.int .i64))/\QB wo wi/\wo.heap.size<wi.heap.size) (fun _ j _=>F-(intOf j).toNat);case atStart=>
     refine⟨0,e6 _,rfl,?_,?_,?_⟩;·exact⟨rfl,.inr ⟨wo.heap.size,1,#[.int .i64 1],rfl,r3 _,ZA _ _ rfl,r3 _,Qc,rfl,rfl⟩⟩
     .exact ZB _ _
     .simp
    case round=>
     obtain⟨q,hq,rfl,aH,bO,hU⟩:=hrel;obtain⟨A9,c9,rfl⟩:=ZV aH;have N0:=(bO.block _ s0).trans M0;have N1:=(bO.block _ s1).trans M1;have P:wr.heap[w.heap.size]?=some (.cells (Z3 (.slice pA np pc) (.slice eA B ec) zv (.slice tA F tc) z t).toArray 114 (0,0)):=by rw[aE.out];exact N0
     have dY:=C4 P (k:=1) rfl;have N:=via aU bO;have t0:=ZE N0;have m:=i' aH;clear aH P;by_cases aR:q<F
     .have gJ:(q:Int)<(F:Int):=Qa
      obtain⟨bt,ot,rfl,fZ,ct⟩:=fT.out wr N q aR;obtain⟨i,aL⟩:∃i,t[q]?=some i:=⟨_,h' (by rw[U.out];exact aR)⟩;have bU:(natZ t).getD q 0=(i:Int):=by rw[h6,p5 aL];rfl
      rw[bU]at ct;have dL:=eY.out i (e7 aL);have E:=i' (BG (es:=X) (c:=k) aL);have gD:(i:Int)<(B:Int):=Qa
      obtain⟨x,be,oe,b2,o2,rfl,hJ,aT,cO,c1,c2,gK,hg⟩:=fE.out wr N i k dL bJ;have hO:(k:Int)<(x.co.length:Int):=Qa
      rw[hg]at E;obtain⟨y,hy⟩:=Qu (x.co.getD k 0);dsimp only at E;rw[hy]at c2 gK E;have hZ:IntKind.i64.wrap (-y)=-y:=j0 _ Qa;generalize x.co.length=L at*;clear bU aL hy hg;go_wp2_with (at_builtin;refine C0 _ rfl _ _ 28 rfl wo.heap.size 3 i0 (.int .i64 0) 1 8 underlying28 hi dV dW dX rfl Qc _ _ _ rfl (m.out.alloc _) ⟨wr.heap.size,0,none⟩ 1 1 [.int .i64 (-y)] rfl rfl ?c1 ?c2 ?c3 ?c4 ?c5 ?_);case c1=>exact G1 _ [.int .i64 (-y)] _ Qd
      case c2=>intro u K;simp at K;subst K;rfl
      case c3=>unfold maxLen;omega
      case c4=>omega
      case c5=>simp;omega
      intro v' w3 aB bH _;have aK:QB wo w3:=ZX (via bO (ZB _ _)) bH fun b e=>(m.out.lt b e).1;have eX:wo.heap.size<w3.heap.size:=by have:=bH.size;simp at this;omega
      have H:=i' (show w3.ownsRow wo.heap.size 3 1 v' (q+1+1) ((E8 X t k (q+1)).map (Value.int .i64))from by rw[E.out,b4];exact aB);clear aB bH m E;go_wp2;go_roundw;case rel=>exact⟨q+1,Qa,Qj,H.out,aK,eX⟩
      case measure=>exact Qv
     .obtain rfl:q=F:=Qa
      clear dY aR;go_wp2_with (at_builtin;refine B6 _ rfl _ _ 28 rfl wo.heap.size 3 i0 (.int .i64 0) 1 8 underlying28 hi dV dW dX rfl Qc _ _ _ rfl (m.out.alloc _) ⟨wr.heap.size,0,none⟩ 1 1 [.int .i64 u] rfl rfl ?c1 ?c2 Qc ?c3 ?c4 ?c5 (wr.heap.size+1) ?c6 ?_);case c1=>exact G1 _ [.int .i64 u] _ Qd
      case c2=>intro u K;simp at K;subst K;rfl
      case c3=>unfold maxLen;omega
      case c4=>omega
      case c5=>simp;omega
      case c6=>simp
      intro g9 aI w3 aB bH eT eR;have aK:QB wo w3:=ZX (via bO (ZB _ _)) bH fun b e=>(m.out.lt b e).1;have fV:=(aB.lt g9 rfl).1;have aJ:=i' (aM.out.below aK);have fJ:=i' (show At 1 Zc w3 (some ⟨g9,0,none⟩) (proofRow X t k u)from A' (base:=wo.heap.size) (n:=q+1+1) (e:=3) (c:=aI) (by rw[<-BH,b4,U.out];exact aB));have cK:=i' (show (proofRow X t k u).length=q+1+1 from by simp[proofRow,U.out]);have eS:=i' (show some g9≠u6.ownBlock from fun e=>by have:=(aM.out.own.lt g9 e.symm).2;omega);have gV:wo.heap.size<w3.heap.size:=jM fV eR;have bR:=via aU aK;have P0:=(aK.block _ s0).trans M0;have P1:=(aK.block _ s1).trans M1;obtain⟨A6,c6,rfl⟩:=ZV aM.out.own;clear aB bH eT m N0 N1;have gW:=gP.out;go_wp2_with (at_builtin;refine B6 _ rfl _ _ 116 rfl (w.heap.size+2) 28 i1 (.slice none 0 0) 1 24 underlying116 hj gE gF cI rfl Qc _ _ _ rfl (aJ.out.own.alloc _) ⟨w3.heap.size,0,none⟩ 1 1 [.slice (some g9) (q+1+1) aI] rfl rfl ?c1 ?c2 Qc ?c3 ?c4 ?c5 (w3.heap.size+1) ?c6 ?_);case c1=>exact G1 _ [.slice (some g9) (q+1+1) aI] _ Qd
      case c2=>intro u K;simp at K;subst K;rfl
      case c3=>unfold maxLen;omega
      case c4=>omega
      case c5=>simp;omega
      case c6=>simp
      intro g hC w4 H aQ cW gS;have eG:=i' (RowsOwn.push (x:=⟨some ⟨g9,0,none⟩,aI,proofRow X t k u⟩) aJ.out (ZB w3 _) rfl (fJ.out.below (ZB w3 _)) Qg Qk eS.out aQ (by show w4.ownsRow _ 28 1 _ _ (_++[Value.slice (some g9) (proofRow X t k u).length aI]);rw[cK.out];exact H) (by simpa using cW));have aC:QB w w4:=ZX (via bR (ZB _ _)) aQ fun b e=>by have:=(aJ.out.own.lt b e).1;omega
      have Q0:=b5 aQ (Zz P0 _) (X1 aJ.out.own Qa);have Q1:=b5 aQ (Zz P1 _) (X1 aJ.out.own Qa);have O:=i' (show (xs++[(⟨some ⟨g9,0,none⟩,aI,proofRow X t k u⟩:IR)]).map IR.l=proofRows X z t 0 (C.take (k+1))from by rw[cL.out,b4];rfl);clear H aQ cW aJ fJ cL P0 P1;go_wp2;go_roundw;case rel=>exact⟨k+1,_,Qa,Qj,⟨eG.out,O.out⟩,Q0,Q1,aC⟩
      case measure=>exact Qv
  .obtain rfl:np=k:=Qa
   have aO:C.take np=C:=by rw[<-aD.out,x1]
   obtain⟨dQ,O⟩:=r.out;rw[aO]at O;have cO:xs.length=F+1:=by
    have h1:=D1 List.length O;rw[B3]at h1;have h2:=M8 X (t:=t) dA.out C 0;have h3:z.countP (inR 0 C.length)=z.length:=by rw[jQ];intro x Z;have:=gQ.out x Z;have:=aD.out;simp[inR];omega
    have:=fN.out;have:=aD.out;have:=U.out;omega
   obtain⟨A6,c6,rfl⟩:=ZV dQ.own;have hS:=i' (p6 A6 xs c6 wo dQ.rowsAt (fun x Z=>by have:=HB X (z:=z) (t:=t) C 0 x.l (by rw[<-O];exact b3.2 ⟨x,Z,rfl⟩);have:=U.out;omega) Qa Qa (by rw[O,<-aS.out];exact tP cG.out C 0 cC.out));rw[O]at hS;rw[cO]at hS |-;have bZ:=i' O;have cZ:=i' cO;obtain⟨sl,dU⟩:=Qu (r1 (proofRows X z t 0 C));have aZ:=i' dU;unfold L1 at hS;rw[dU]at hS;clear dU dQ r aO bJ MB bB aN cO O;rcases sl with _|⟨l,den⟩
   .dsimp only at hS;have aG:=i' (show gI X C z t=none by unfold gI;rw[aZ.out]);go_wp2_with (go_at_call 58;refine hS.out.mono ?_;rintro e w2 ⟨rfl,aT⟩;have N1:=Zx aT M1;have C1:=bk3 N1;have N:=via aU aT);refine e5 (v:=.tuple #[.agg #[(0:Int),(0:Int),.slice none 0 0],false]) ?_ rfl ⟨?_,Qi⟩;·simp[results,results61,go_sem,C1]
    .unfold sP;rw[aG.out]
   .dsimp only at hS;have cK:(proofRows X z t 0 C).length=F+1:=by rw[<-bZ.out,B3];exact cZ.out
    obtain⟨cJ,dI,hK,eP⟩:=jH aZ.out Qa (by rw[<-aS.out];exact tP cG.out C 0 cC.out);rw[cK]at cJ;rw[cJ]at hS;have cU:=i' cJ;have bY:=i' eP;clear eP cK cJ;go_wp2_with (go_at_call 58;refine hS.out.mono ?_;rintro e w2 ⟨⟨v,rfl,aH⟩,aT⟩;obtain⟨gY,gZ,rfl⟩:=ZV aH;have N0:=Zx aT M0;have N1:=Zx aT M1;have C1:=bk3 N1;have N:=via aU aT;have m:=i' aH;clear aH);have P:w2.heap[w.heap.size]?=some (.cells (Z3 (.slice pA np pc) (.slice eA B ec) zv (.slice tA F tc) z t).toArray 114 (0,0)):=by rw[aE.out];exact N0
    have bB:=C4 P (k:=1) rfl;have aN:=C4 P (k:=3) rfl;have cE:=C4 P (k:=0) rfl;obtain⟨lev,bW⟩:=Qu (l.getD 0 0);have cT:=A' m.out;obtain⟨bK,hA12,fY,bM,c0⟩:=X0 m.out (k:=0) (u:=.int .i64 lev) (by rw[<-bW];cases l with|nil=>have:=cU.out;simp at this|cons x l=>rfl);subst hA12;have aW:=i' bW;have dN:=i' cT;clear hS bW cT P;have gU:=ZE N1;apply UK w 8 10 11 B (.cells (D9 (List.replicate B 0)) 3) (.cells #[(0:Int),(0:Int),.slice none 0 0] 41) (fun h=>.cells #[den,lev,.slice (some h.b) B B] 41);case hm=>kernel_rfl
    case hB=>kernel_rfl
    case hB'=>intro g;kernel_rfl
    case hS|hN=>kernel_rfl
    case hne=>decide
    case hkd=>kernel_rfl
    case hcl=>intro L _ o S h;simp at S;subst S;simp[Region.binds]at h;exact⟨by simp[h],by simp[h]⟩
    case hw=>exact N
    case hq=>
     intro g u K bT bG fX;have d0:=Zx K N0;have P:u.heap[w.heap.size]?=some (.cells (Z3 (.slice pA np pc) (.slice eA B ec) zv (.slice tA F tc) z t).toArray 114 (0,0)):=by rw[aE.out];exact d0
     have e1:=C4 P (k:=1) rfl;have e2:=(K.cell (show (⟨bK,0,none⟩:Addr).block<_ from bM)).trans c0;have z1:bK<u.heap.size:=h8 bM K.size;have z2:w.heap.size<u.heap.size:=ZE d0;simp only[mixL,mkMAS,yieldsC,l5,n7,Nat.reduceAdd,Nat.reduceBEq,w0,o7,s4,S3,k4,p0,Zyk,Zyj,r5,Nat.reduceEqDiff];repeat (go_big_quiet_step (fail))
     exact Zyh rfl
    case hal1=>intro o S g x bG;simp only[B4,S',nK]at S;subst S;refine UX (v:=.int .i64 B) rfl Qb Qb ?_;exact S2 B (by have:=I.out;omega) x
    case hal2=>intro o S g x;simp only[B4,S',nK]at S;subst S;kernel_rfl
    case hind=>exact Qw
    case hs=>intro o S g x Z hz;simp only[B4,S',nK]at S;subst S;exact⟨_,B7 rfl rfl rfl rfl Qb Qb Qb hz,(((OnlyB.refl _ _).set _ _).set _ _).set _ _,ZG (ZG (ZG hz _ rfl) _ rfl) _ rfl⟩
    case hend=>
    intro g u dB dZ aY K bR E1 E2;obtain⟨R,hR⟩:=Qu ((g 8).b);obtain⟨Q,hQ⟩:=Qu ((g 10).b);rw[hR]at dB aY E1 E2;rw[hQ]at dZ aY E2;have hI:Hid (ZK 3 u R (List.replicate B 0)):=i' E1;rw[hR,hQ];clear hR hQ C1 bB aN cE c0 E1 bR M0 M1 g aU bZ cZ;have P0:=Zx K N0;have P:u.heap[w.heap.size]?=some (.cells (Z3 (.slice pA np pc) (.slice eA B ec) zv (.slice tA F tc) z t).toArray 114 (0,0)):=by rw[aE.out];exact P0
    have aN:=C4 P (k:=3) rfl;clear P P0;go_wp2;go_loopw [86] (fun i wr=>∃q:Nat,q<=F/\i=.int .i64 q/\Hid (ZK 3 wr R (putW l 0 (t.take q) (List.replicate B 0)))/\wr.heap[Q]?=some (.cells #[den,lev,.slice (some R) B B] 41)/\Hid (∀j,j<q->¬l.getD (j+1) 0<0)/\QB w2 wr) (fun i _=>F-(intOf i).toNat);case atStart=>exact⟨0,e6 _,rfl,hI.out,E2,fun j hj=>Qa,K⟩
    case round=>
     clear hI E2 aN;obtain⟨q,hq,rfl,G,aA,dP,J⟩:=hrel;have P0:=Zx J N0;have P1:=Zx J N1;have P:wr.heap[w.heap.size]?=some (.cells (Z3 (.slice pA np pc) (.slice eA B ec) zv (.slice tA F tc) z t).toArray 114 (0,0)):=by rw[aE.out];exact P0
     have aN:=C4 P (k:=3) rfl;have D:=bk3 aA;have aC:=via N J;clear P;by_cases aR:q<F
     .have gJ:(q:Int)<(F:Int):=Qa
      obtain⟨bt,ot,rfl,fZ,ct⟩:=fT.out wr aC q aR;obtain⟨i,aL⟩:∃i,t[q]?=some i:=⟨_,h' (by rw[U.out];exact aR)⟩;have bU:(natZ t).getD q 0=(i:Int):=by rw[h6,p5 aL];rfl
      rw[bU]at ct;have dL:=eY.out i (e7 aL);have gD:(i:Int)<(B:Int):=Qa
      have E:=i' (AB l (W:=List.replicate B 0) aL);obtain⟨b9,o9,e9,-,cl⟩:=e' (dN.out.below J) (k:=q+1) (by rw[cU.out];omega);cases e9;rw[w0]at cl;obtain⟨x,Z⟩:=Qu (l.getD (q+1) 0);rw[Z]at cl E;have fH:=i' Z;obtain⟨V,hV⟩:=Qu (putW l 0 (t.take q) (List.replicate B 0));rw[hV]at G E;have eH:V.length=B:=by rw[<-hV,s5,M7]
      have ci:=G.out.loadD (k:=i) Qa;have fi:=G.out.frozen i;have eW:=G.out.size;have eU:bK<wr.heap.size:=h8 bM J.size;have eV:=ZE aA;have cN:IntKind.i64.wrap ((q:Int)+1)=(q:Int)+1:=j0 _ Qa;have eI:=i' eH;clear bU aL Z hV eH;go_wp2;refine v8 w 9 Qb Qb Qi ?_;intro bT bG;simp only[sT,p',sA,B9];repeat (go_big_quiet_step (fail))
      refine Zyh ?_;intro wb d aX dS;clear bT bG;have bF:=i' (G.out.below d);have dE:=Zx d aA;have R1:=Zx d P1;have C1:=bk3 R1;have bP:=via J d;have hD:=bF.out.loadD (k:=i) (by rw[eI.out];exact dL);have hH:=bF.out.frozen i;have hG:=(d.cell (show (⟨bK,q+1,none⟩:Addr).block<_ from eU)).trans cl;have gT:bK≠R:=Qa
      have hP:w.heap.size+1≠R:=Qa
      have fR:=i' (show ZK 3 (wb.setCell ⟨R,i,none⟩ (.int .i64 x)) R (putW l 0 (t.take (q+1)) (List.replicate B 0))from by have:=bF.out.store i x;rwa [<-E.out]at this);clear G aA P0 P1 D ci fi cl aN ct bF;by_cases fI:x<0
      .have aG:=i' (show gI X C z t=none by unfold gI;simp only[aZ.out];rw[Zc9 (AD (k:=q) (by rw[U.out];exact aR) (by rw[fH.out];exact fI))]);go_wp2;refine e5 (v:=.tuple #[.agg #[(0:Int),(0:Int),.slice none 0 0],false]) ?_ rfl ⟨?_,?_⟩;·refine K2 (p:=4) (u:=5) (ad:=⟨w.heap.size+1,0,none⟩) (v:=.agg #[(0:Int),(0:Int),.slice none 0 0]) rfl Qe (x3 (T:=41) (cs:=[.int .i64 0,.int .i64 0,.slice none 0 0]) Qb Qb ?_);exact ZG (ZG (ZG (ZC R1 (by first|omega|(dsimp only;omega)) _) _ rfl) _ rfl) _ rfl
       .unfold sP;rw[aG.out]
       .first|go_grown|(repeat' (first|exact aX|refine M4 ?_ Qg _))
      .go_wp2;go_roundw;case rel=>exact⟨q+1,Qa,Qj,fR.out,ZC dE (by first|omega|(dsimp only;omega)) _,(fun j hj=>by
        by_cases gH:j=q;·rw[gH,fH.out];exact fI
        .have:=dP.out j Qa;omega),bP.setCell (by first|omega|(dsimp only;omega)) _⟩
       case measure=>exact Qv
     .obtain rfl:F=q:=Qa
      have aO:t.take F=t:=by rw[<-U.out,x1]
      rw[aO]at G;obtain⟨W,hW⟩:=Qu (putW l 0 t (List.replicate B 0));rw[hW]at G;have aF:=i' (show W.length=B by rw[<-hW,s5,M7]);have cH:=i' (show ZN 1228800000000000 W by rw[<-hW];exact vG bY.out t 0 _ fun x Z=>by rw[jR Z];decide);have cA:=i' (show gI X C z t=if W9 X den lev W 0 C=true then some {den:=den / (gcdL 0 (den::lev::W):Int),lev:=lev / (gcdL 0 (den::lev::W):Int),W:=W.map (· / (gcdL 0 (den::lev::W):Int))} else none by
       have fU:X.length=B:=by rw[<-aS.out,r2];exact I.out
       unfold gI;simp only[aZ.out];rw[q' (by rw[AE (by rw[U.out];exact dP.out)];decide),fU,hW,aW.out]);clear aR aO hW dP aN D P0 P1;go_wp2;go_loopw [110] (fun i wr=>∃k:Nat,k<=np/\i=.int .i64 k/\Hid (ZK 3 wr R W)/\wr.heap[Q]?=some (.cells #[den,lev,.slice (some R) B B] 41)/\Hid (∀j,j<k->¬(C.getD j 0*den+putsL X W j<lev))/\QB w2 wr)(fun i _=>np-(intOf i).toNat);case atStart=>exact⟨0,e6 _,rfl,G.out,aA,fun j hj=>Qa,J⟩
      case round=>
       clear G aA J aC;obtain⟨k,hk,rfl,G,aA,dO,J⟩:=hrel;have P0:=Zx J N0;have P1:=Zx J N1;have P:wr.heap[w.heap.size]?=some (.cells (Z3 (.slice pA np pc) (.slice eA B ec) zv (.slice tA F tc) z t).toArray 114 (0,0)):=by rw[aE.out];exact P0
       have cE:=C4 P (k:=0) rfl;have bB:=C4 P (k:=1) rfl;have D:=bk3 aA;have aC:=via N J;have eW:=G.out.size;have eV:=ZE aA;have dR:=ZE P0;clear P;by_cases aV:k<np
       .have eN:(k:Int)<(np:Int):=Qa
        obtain⟨bw,ow,rfl,eK,cw⟩:=fW.out wr aC k aV;obtain⟨u,K⟩:=Qu (C.getD k 0);rw[K]at cw;obtain⟨T,hT⟩:=Qu (putsL X W k);have eD:=i' fun(x:Grew wr)=>(by have:=pY pA eA (some ⟨R,0,none⟩) np pc ec B np es W den lev k x.val cG.out (fO.out.below (via aC x.ok)) (G.out.below x.ok).at' (by rw[aF.out,I.out]) aV (fun y hy=>l3 (cH.out y hy) Qc);rw[I.out,aF.out,aS.out,hT]at this;exact this:Calls prog 59 #[.agg #[(.slice pA np pc),(.slice eA B ec)],.agg #[den,lev,.slice (some R) B B],k] x.val fun e w'=>e=.returned T/\Below x.val.heap.size x.val w');have fS:T.natAbs<=8*(1228800000000000*20):=by have:=nE (X:=20) (Y:=1228800000000000) k X W X.length (by rw[<-aS.out];exact cG.out.exs_co) cH.out;rw[x1,<-aS.out,r2,h9 (by rw[aF.out,I.out];exact r3 _),aS.out,hT]at this;refine l3 this (C2 _ fP)
        have fB:u.natAbs<=400:=by rw[<-K];exact cC.out.get k
        have fC:=g' fB dI;obtain⟨y,hy⟩:=Qu (u*den);rw[hy]at fC;obtain⟨s,hs⟩:=Qu (y+T);have cN:IntKind.i64.wrap (u*den)=y:=by rw[hy];exact j0 _ Qa
        have fD:IntKind.i64.wrap (y+T)=s:=by rw[hs];exact j0 _ Qa
        have cX:=i' (show C.getD k 0*den+putsL X W k=s by rw[K,hT,hy,hs]);clear K hT fS fB fC hy hs;go_wp2;refine v8 w 11 Qb Qb Qi ?_;intro bT bG;simp only[sT,p',sA,B9];repeat (go_big_quiet_step ((go_at_call 59;with_reducible exact Grew.call (eD.out _))))
        refine Zyh ?_;intro wb d aX dS;clear bT bG;have bF:=i' (G.out.below d);have dE:=Zx d aA;have R1:=Zx d P1;have C1:=bk3 R1;have bP:=via J d;clear G aA P0 P1 D cE bB cw eD;by_cases dR:s<lev
        .have aG:=i' (show gI X C z t=none by rw[cA.out,S5 (j:=k) (by rw[aD.out];exact aV) (by rw[cX.out];exact dR)];rfl);go_wp2;refine e5 (v:=.tuple #[.agg #[(0:Int),(0:Int),.slice none 0 0],false]) ?_ rfl ⟨?_,?_⟩;·refine K2 (p:=4) (u:=5) (ad:=⟨w.heap.size+1,0,none⟩) (v:=.agg #[(0:Int),(0:Int),.slice none 0 0]) rfl Qe (x3 (T:=41) (cs:=[.int .i64 0,.int .i64 0,.slice none 0 0]) Qb Qb ?_);exact ZG (ZG (ZG (R1) _ rfl) _ rfl) _ rfl
         .unfold sP;rw[aG.out]
         .first|go_grown|(repeat' (first|exact aX|refine M4 ?_ Qg _))
        .go_wp2;go_roundw;case rel=>exact⟨k+1,Qa,Qj,bF.out,dE,(fun j hj=>by
          by_cases gG:j=k;·rw[gG,cX.out];exact dR
          .exact jK.2 (dO.out j Qa)),bP⟩
         case measure=>exact Qv
       .obtain rfl:np=k:=Qa
        have bA:=cA.out;rw[S6 (fun j hj=>dO.out j (by rw[aD.out]at hj;exact hj)),Zc9 rfl]at bA;have fQ:0<gcdL 0 (den::lev::W):=oP den Qd Qa;have bS:=(iB (den::lev::W) 0).2;have cF:=i' fun A c w' hA=>pV A (den::lev::W) c w' hA (by simp only[L'];rw[aF.out];have:=I.out;omega) (by
         intro x Z;rcases ZAW.1 Z with rfl|Z;·exact l3 dI Qc
         .rcases ZAW.1 Z with rfl|Z;·rw[<-aW.out];exact l3 (bY.out.get 0) Qc
          .exact l3 (cH.out x Z) Qc);have cV:(den::lev::W).length=2+B:=by simp only[L'];rw[aF.out];omega
        rw[cV]at cF;obtain⟨M,eM⟩:∃M:Int,((gcdL 0 (den::lev::W):Nat):Int)=M:=⟨_,rfl⟩;rw[eM]at bA bS cF;have dJ:0<M:=Qa
        have gC:¬M=0:=Qa
        have hL:(M==0)=false:=by simpa using gC
        have cN:IntKind.i64.wrap (den.tdiv M)=den / M:=kZ dJ (bS den Qd) dI Qc;have fD:IntKind.i64.wrap (lev.tdiv M)=lev / M:=kZ dJ (bS lev Qd) (by rw[<-aW.out];exact bY.out.get 0) Qc;have gM:=i' fun j (hj:j<B)=>(kZ dJ (bS (W.getD j 0) (by
         have cI:j<W.length:=by rw[aF.out];exact hj
         rw[h6,h' cI];exact A5 _ (A5 _ (D2 cI)))) (cH.out.get j) Qc:IntKind.i64.wrap ((W.getD j 0).tdiv M)=W.getD j 0 / M);have cD:=i' bA;have bX:=i' fun(x:World)=>(⟨rfl,.inr ⟨x.heap.size,2,#[.int .i64 den,.int .i64 lev],rfl,r3 _,ZA _ _ rfl,r3 _,Qc,rfl,rfl⟩⟩:(x.alloc (.cells #[den,lev] 3)).ownsRow x.heap.size 3 1 (.slice (some x.heap.size) 2 2) 2 [.int .i64 den,.int .i64 lev]);clear bA bS fQ eM cV cA dO aV cE bB;go_wp2_with (at_builtin;refine C0 _ rfl _ _ 28 rfl wr.heap.size 3 i0 (.int .i64 0) 1 8 underlying28 hi dV dW dX rfl Qc _ _ _ rfl (bX.out wr) ⟨R,0,none⟩ B B (W.map (Value.int .i64)) rfl ?c0 ?c1 ?c2 ?c3 ?c4 ?c5 ?_);case c0=>rw[B3,aF.out,p1]
        case c1=>
         intro j u K;rw[k2]at K;obtain⟨y,hy,rfl⟩:=n2.1 K;have:=(G.out.alloc (.cells #[den,lev] 3)).load hy;have e:Addr.add ⟨R,0,none⟩ j=⟨R,j,none⟩:=by unfold Addr.add;split<;>simp_all
         rw[e];exact this
        case c2=>intro u K;obtain⟨y,-,rfl⟩:=b3.1 K;rfl
        case c3=>have:=I.out;unfold maxLen;omega
        case c4=>have:=I.out;omega
        case c5=>simp
        intro v4 w4 H aQ _;obtain⟨A4,c4,rfl⟩:=ZV H;have aP:QB wr w4:=ZX (ZB wr _) aQ fun b e=>by cases e;exact r3 _
        have cP:=i' (show At 1 Zc w4 A4 (den::lev::W)from A' (l:=den::lev::W) H);have eB:=i' (G.out.below aP);have eE:=Zx aP aA;have R4:=Zx aP P1;have cQ:=via J aP;clear H aQ aP G aA P0 P1 D J aC;go_wp2_with (go_at_call 63;refine(cF.out _ _ _ cP.out).mono ?_;rintro e w5 ⟨rfl,bN⟩);have dD:=i' (eB.out.below bN);have eF:=Zx bN eE;have R5:=Zx bN R4;have cR:=via cQ bN;clear eB eE R4 cQ bN cP cF bX;apply UL w2 1 5 9 11 Q (.int .i64 den) (.int .i64 lev) (fun a b=>.cells #[.int .i64 (if a then den / M else den),.int .i64 (if b then lev / M else lev),.slice (some R) B B] 41);case hm=>kernel_rfl
        case hB=>kernel_rfl
        case hB'=>intro g;kernel_rfl
        case hS|hN=>kernel_rfl
        case hne=>decide
        case hkd=>kernel_rfl
        case hw=>exact cR
        case hb=>exact dZ
        case hb0=>exact eF
        case hcl=>
         intro L hc;refine⟨⟨fun h=>?_,fun h=>?_⟩,fun o S h=>?_,fun o S h=>?_⟩;·have h2:=hc 9 _ rfl h;simp[Region.binds]at h2;exact⟨by simp[h2],by simp[h2]⟩
         .have h2:=hc 11 _ rfl h;simp[Region.binds]at h2;exact⟨by simp[h2],by simp[h2]⟩
         .simp at S;subst S;simp[Region.binds]at h;exact⟨by simp[h],by simp[h]⟩
         .simp at S;subst S;simp[Region.binds]at h;exact⟨by simp[h],by simp[h]⟩
        case hq=>
         intro g u K bT bG fX;dsimp only[mixL,yieldsC,l5,n7];simp only[mixL,yieldsC,l5,n7,Nat.reduceAdd,Nat.reduceBEq,w0,o7,s4,S3,k4,p0,Zyk,Zyj,r5,Nat.reduceEqDiff];repeat (go_big_quiet_step (fail))
         exact Zyh rfl
        case hp=>intro o S g x Z;simp only[B4,S',nK]at S;subst S;have D:=bk3 Z;exact IY (b:=Q) (off:=0) rfl Qb Qb (by simpa using D.1)
        case hqq=>intro o S g x Z;simp only[B4,S',nK]at S;subst S;have D:=bk3 Z;exact IY (b:=Q) (off:=1) rfl Qb Qb (by simpa using D.2.1)
        case hind=>exact Qx
        case hs1=>intro o S f g x Z;simp only[B4,S',nK]at S;subst S;have D:=bk3 Z;exact⟨_,W7 (n:=den / M) rfl Qb Qb Qb D.1 (by simp[D]),(OnlyB.refl _ _).set _ _,ZG Z _ rfl⟩
        case hs2=>intro o S f g x Z;simp only[B4,S',nK]at S;subst S;have D:=bk3 Z;exact⟨_,W7 (n:=lev / M) rfl Qb Qb Qb D.2.1 (by simp[D]),(OnlyB.refl _ _).set _ _,ZG Z _ rfl⟩
        intro g x hg cS bL;simp only[Zyk]at bL;have eC:=i' (show ZK 3 x R W from(hg.block R dD.out.size (by simpa using aY)).trans dD.out);have R6:=b5 hg R5 (by have:=ZE N1;simp;omega);have dH:=cN;obtain⟨d2,dH⟩:=Qu (den / M);obtain⟨l2,eO⟩:=Qu (lev / M);rw[dH,eO]at bL cD;clear hg dD eF R5 cR cN fD dH eO g;have D:=bk3 bL;go_wp2;go_loopw [151] (fun i wr=>∃k:Nat,k<=B/\i=.int .i64 k/\Hid (ZK 3 wr R ((W.take k).map (· / M)++W.drop k))/\wr.heap[Q]?=some (.cells #[d2,l2,.slice (some R) B B] 41)/\QB w2 wr)(fun i _=>B-(intOf i).toNat);case atStart=>exact⟨0,e6 _,rfl,i' (by simpa using eC.out),bL,cS⟩
        case round=>
         clear eC bL cS D R6;obtain⟨k,hk,rfl,bD,dF,bQ⟩:=hrel;have D:=bk3 dF;have eW:=bD.out.size;have eV:=ZE dF;by_cases aV:k<B
         .have eN:(k:Int)<(B:Int):=Qa
          have dM:k<W.length:=by rw[aF.out];exact aV
          have ci:=bD.out.load (AI (g:=M) dM);have fi:=bD.out.frozen k;have bE:=i' (bD.out.store k (W.getD k 0 / M));rw[AH dM]at bE;have gO:=gM.out k aV;have gR:B<=8:=by have:=I.out;omega
          obtain⟨y,hy⟩:=Qu (W.getD k 0);rw[hy]at ci gO bE;clear hy dM;go_wp2;go_roundw;case rel=>
           refine⟨k+1,Qa,Qj,bE.out,ZC dF ?_ _,bQ.setCell ?_ _⟩;·exact fun e=>aY e.symm
           .exact dB
          case measure=>exact Qv
         .obtain rfl:B=k:=Qa
          have P1:=Zx bQ N1;have bE:=bD.out;rw[show W.take B=W by rw[<-aF.out,x1],show W.drop B=[]by rw[<-aF.out,List.drop_length],W5]at bE;have eJ:=via N bQ;have C1:=bk3 P1;have dG:R≠w.heap.size+1:=by have:=ZE N1;omega
          clear bD;go_wp2;refine e5 (v:=.tuple #[.agg #[d2,l2,.slice (some R) B B],true]) ?_ rfl ⟨?_,?_⟩;·refine K2 (p:=4) (u:=5) (ad:=⟨w.heap.size+1,0,none⟩) (v:=.agg #[d2,l2,.slice (some R) B B]) rfl Qe (x3 (T:=41) (cs:=[.int .i64 d2,.int .i64 l2,.slice (some R) B B]) Qb Qb ?_);exact ZG (ZG (ZG P1 _ rfl) _ rfl) _ rfl
          .unfold sP;rw[cD.out];exact⟨_,_,rfl,AG (((bE.other _ _ (fun e=>dG e.symm)).other _ _ (fun e=>dG e.symm)).other _ _ (fun e=>dG e.symm)) (by simp[aF.out]) (by have:=I.out;omega) (l3 N.size dB)⟩
          .exact((eJ.setCell Qg _).setCell Qg _).setCell Qg _
variable {w:World} {base n c g:Nat} {e:TypeId} {xs:List Value}
def UZ(h:w.ownsRow base e 1 (.slice (some g) n c) n xs) {k:Nat} (G:k<n)(v:Value):(w.setCell ⟨g,k,none⟩ v).ownsRow base e 1 (.slice (some g) n c) n (xs.set k v):=by
 obtain⟨s,i⟩:=h;refine⟨by simpa using s,?_⟩;rcases i with⟨i,-⟩|⟨E,r,f,t,u,y,z,D,m,o⟩;·cases i
 .cases t;refine .inr ⟨g,c,f.setIfInBounds k v,rfl,u,?_,z,D,by simpa using m,?_⟩;·simp only[World.setCell];rw[jA,Zc9 rfl,y];simp
  .rw[p1]at o |-;rw[<-o];apply aP;intro j;rw[dN,mN,bF,aT,dN,y5,BC,m];by_cases p:j<n
   .simp only[p,Zyk];by_cases d:k=j;·subst d;rw[Zc9 rfl,Zc9 rfl,Zc9 Qa,Zc9 Qa]
    .rw[q' d,q' d,mN]
   .simp only[p,Zyj];rw[q' Qa]
def U3(h:w.ownsRow base e 1 (.slice (some g) n c) n xs)(k:Nat):w.frozen? ⟨g,k,none⟩=false:=by
 rcases h.2 with⟨i,-⟩|⟨p,d,f,m,r,o,s,t,u,y⟩;·cases i
 .cases m;unfold World.frozen?;rw[o];simp
def U4(X:ByteArray)(p s:Option Addr)(f l:List Int)(t H j:Nat)(o a:Int)(w:World)(J:At 1 Zc w p f)(L:At 1 Zc w s l)(i:f.length=j)(Q:l.length=j)(Y:j<=8)(S:ZN 20 f)(D:o.natAbs<=20)(q:ZN 10000000000000000 l)(m:a.natAbs<=10000000000000000):Calls prog 86 #[.agg #[.string X,.slice p j t,o],.agg #[a,.slice s j H]] w (Qt w (decide (dotL f l<=o*a))):=by
 have K:=i' fun W (N:QB w W)=>(by have:=pU p s f l t H W (J.below N) (L.below N) Qa Qa 20 10000000000000000 Qc S q;rw[i,Q]at this;exact this:Calls prog 38 #[.slice p j t,.slice s j H] W fun e I=>e=.returned (dotL f l)/\W=I);have R:=g' D m;obtain⟨y,r⟩:=Qu (o*a);rw[r]at R;have V:IntKind.i64.wrap (o*a)=y:=by rw[r];exact j0 _ Qa
 rw[r];obtain⟨d,O⟩:=Qu (dotL f l);rw[O]at K |-;clear r O R J L i Q S q;go_enter func86,ntmps86;go_wp2;obtain⟨U,Z⟩:∃U,U=w:=⟨_,rfl⟩;refine c8 w Qb Qb Qi ?_;intro z h;repeat (go_big_quiet_step ((go_at_call 38;with_reducible exact Zd (K.out _ (h.out _)))))
 refine Zyh ?_;intro B u G E;clear z h;go_wp2;go_ret;exact⟨rfl,by assumption⟩
variable {n k np:Nat} {es:List En} {l:List Int} {den:Int}
def BP(h:k<n):(List.replicate k (1:Int)++List.replicate (n-k) 0).set k 1=List.replicate (k+1) 1++List.replicate (n-(k+1)) 0:=by obtain⟨r,d⟩:∃r,n-k=r+1:=⟨n-k-1,Qa⟩;rw[d,show n-(k+1)=r by omega,iA _ _ Qd,M7,jN,l8,List.replicate_succ' (n:=k)];simp
def I4{i:Nat} (h:i<n):(List.replicate n (0:Int)).set i 1=hU n i:=by
 apply aP;intro j;rw[aT];unfold hU;rw[k2];by_cases f:j<n
 .rw[aQ f];by_cases d:i=j;·subst d;simp[h]
  .have:¬j=i:=fun e=>d e.symm;simp[d,this,c7,f]
 .rw[bE Qk];have:i≠j:=Qa
  simp[this,f]
def vU(h:RightE es np)(z t:List Nat):c9 (hV np (exs es) z t):=by
 intro s m;simp only[hV,ZAW,s0,b3]at m;rcases m with rfl|⟨i,-,rfl⟩|⟨i,-,rfl⟩;·intro x d;rw[jR d];decide
 .intro x d;obtain⟨j,-,rfl⟩:=b3.1 d;split<;>decide
 .intro x d;have r:=BO h i;have f:((exs es).getD i default).2.natAbs<=20:=by rw[h6];cases p:(exs es)[i]? with|none=>simp[default,instInhabitedProd]|some x=>exact h.exs_mo x (e7 p)
  rcases s0.1 d with d|d;·obtain⟨c,o⟩:=hT.1 d;have:=r c;rw[h6,o]at this;exact l3 this Qc
  .rw[y2]at d;subst d;exact l3 f Qc
def BQ(np:Nat)(es:List Ex)(z t:List Nat):(hV np es z t).length=z.length+t.length+1:=by simp[hV]
def U5(h:RightE es np) {z t:List Nat} (o:∀i∈t,i<es.length):∀a∈hV np (exs es) z t,a.length=np+1:=by
 intro a f;simp only[hV,ZAW,s0,b3]at f;rcases f with rfl|⟨i,-,rfl⟩|⟨i,m,rfl⟩;·simp
 .simp[hU]
 .have d:=o i m;rw[hK,x2 (h' d),(h.co _ (D2 d)).1];rfl
def U6(d:k<l.length)(h:l.getD k 0<0):l.any (·<0)=true:=by rw[h0];refine⟨l[k],D2 d,?_⟩;rw[h6,h' d]at h;simpa using h
def U'(h:∀k,k<l.length->¬l.getD k 0<0):l.any (·<0)=false:=by rw[bM];intro x f;obtain⟨k,d,rfl⟩:=eU f;have:=h k d;rw[h6,h' d]at this;simpa using this
def VA{es:List Ex} (d:k<es.length)(h:¬dotL (es.getD k default).1 l<=(es.getD k default).2*den):es.any (fun x=>!decide (dotL x.1 l<=x.2*den))=true:=by rw[h0];refine⟨es[k],D2 d,?_⟩;rw[h6,h' d]at h;simpa using h
def VB{es:List Ex} (h:∀k,k<es.length->dotL (es.getD k default).1 l<=(es.getD k default).2*den):es.any (fun x=>!decide (dotL x.1 l<=x.2*den))=false:=by rw[bM];intro x f;obtain⟨k,d,rfl⟩:=eU f;have:=h k d;rw[h6,h' d]at this;simpa using this
def RowsOwn.one{W:World} {base B:Nat} (h:ZK 3 W B l)(hb:base<=B)(i:l.length=n):RowsOwn (W.alloc (.cells #[.slice (some B) n n] 28)) base (.slice (some W.heap.size) 1 1) [⟨some ⟨B,0,none⟩,n,l⟩]:=by
 have m:=h.size;refine⟨⟨rfl,.inr ⟨W.heap.size,1,_,rfl,Qa,ZA _ _ rfl,r3 _,Qc,rfl,?_⟩⟩,fun x d=>?_⟩;·simp[i]
 .rw[y2]at d;subst d;refine⟨(h.alloc _).at',fun g f=>?_⟩;cases f;refine⟨hb,Qk,fun e=>?_⟩;cases e;exact O0 _ m
def sQ(q:Option (List Int×Int))(np f:Nat)(e:Ending)(a:World):Prop:=match q with|none=>e=.returned (.tuple #[.agg #[(0:Int),.slice none 0 0],false])|some (m,d)=>∃A c,e=.returned (.tuple #[.agg #[d,.slice A np c],true])/\a.ownsRow f 3 1 (.slice A np c) np (m.map (Value.int .i64))
def _root_.Qy{P:Prop}(h:P:=by intro a b;simp only[ZAW,ZBg,Zyi]at b;rcases b with rfl|rfl|rfl|rfl|rfl|rfl<;>(intro c d;kernel_rfl)):P:=h
def VC(pA eA zA tA:Option Addr)(np pc M ec zn zc tn tc:Nat)(es:List En)(z t:List Nat)(w:World)(hR:RightE es np)(hE:h7 w eA es)(eH:es.length=M)(hZ:At 1 Zc w zA (natZ z))(eV:z.length=zn)(hT:At 1 Zc w tA (natZ t))(eS:t.length=tn)(h5:np<=5)(hz:∀i∈z,i<np)(ht:∀i∈t,i<M)(eW:z.length+t.length+1=np):Calls prog 62 #[.agg (Z3 (.slice pA np pc) (.slice eA M ec) (.slice zA zn zc) (.slice tA tn tc) z t).toArray] w fun e w'=>sQ (hH np (exs es) z t) np w.heap.size e w'/\QB w w':=by
 obtain⟨BA,bP⟩:=Qu ((Z3 (.slice pA np pc) (.slice eA M ec) (.slice zA zn zc) (.slice tA tn tc) z t).toArray);have fY:=hR.n8;have fZ:=i' fun W (hb:QB w W) k (hk:k<zn)=>e' (hZ.below hb) (k:=k) (by rw[N3];omega);have fT:=i' fun W (hb:QB w W) k (hk:k<tn)=>e' (hT.below hb) (k:=k) (by rw[N3];omega);have fE:=i' fun W (hb:QB w W) i (hi:i<M)=>(by
  have bW:i<es.length:=Qa
  obtain⟨b,o,hA,fD,dB⟩:=(hE.below hb).1 i _ (h' bW);have hx:=D2 bW;obtain⟨R,h2,h3⟩:=hR.co _ hx;refine⟨es[i],b,o,hA,fD,R,h2,h3,?_,?_,dB 2 _ rfl,(hE.below hb).2 _ hx,x2 (h' bW),h' bW⟩;·simpa using dB 0 _ rfl
  .have:=dB 1 _ rfl;rw[R]at this;exact this:∃x:En,∃b o,eA=some ⟨b,o,none⟩/\b<W.heap.size/\x.co.length=np/\ZN 20 x.co/\x.mo.natAbs<=20/\W.cell? ⟨b,o+i*3,none⟩=some (.string x.nm)/\W.cell? ⟨b,o+i*3+1,none⟩=some (.slice x.A np x.c)/\W.cell? ⟨b,o+i*3+2,none⟩=some (.int .i64 x.mo)/\At 1 Zc W x.A x.co/\(exs es).getD i default=(x.co,x.mo)/\es[i]?=some x);have dF:=S2 (np+1) Qa;obtain⟨m,bS⟩:=Qu (np+1);rw[bS]at dF;have dJ:IntKind.i64.wrap ((np:Int)+1)=(m:Int):=by rw[<-bS];exact j0 _ Qa
 have gB:m<=6:=Qa
 have cF:=i' bS;have cX:=i' hR;have aZ:=i' eH;have aN:=i' eV;have bI:=i' eS;have fL:=i' hz;have eR:=i' ht;have aO:=i' eW;have dN:=i' bP;have gP:zn<=4:=Qa
 have fQ:M<=8:=Qa
 have gO:tn<=4:=Qa
 rw[bP];obtain⟨i0,hi,dK,dL,dM⟩:=x0 info3;obtain⟨i1,hj,eK,eL,bB⟩:=x0 info31;obtain⟨X,hX⟩:=Qu (exs es);have aU:=i' hX;rw[hX]at fE |-;have gA:0<m:=Qa
 have eB:BA[0]?=some (.slice pA np pc):=by rw[<-bP];rfl
 clear hR hE eH eV eS hz ht eW bP hZ hT hX bS;have c0:=i' fun(W:World)(h:W.heap[w.heap.size]?=some (.cells BA 114))=>(by
  have NB:W.heap[w.heap.size]?=some (.cells (Z3 (.slice pA np pc) (.slice eA M ec) (.slice zA zn zc) (.slice tA tn tc) z t).toArray 114 (0,0)):=by rw[dN.out];exact h
  exact⟨C4 NB (k:=0) rfl,C4 NB (k:=1) rfl,C4 NB (k:=2) rfl,C4 NB (k:=3) rfl,ZE h⟩:W.cell? w.heap.size=some (.slice pA np pc)/\W.cell? ⟨w.heap.size,1,none⟩=some (.slice eA M ec)/\W.cell? ⟨w.heap.size,2,none⟩=some (.slice zA zn zc)/\W.cell? ⟨w.heap.size,3,none⟩=some (.slice tA tn tc)/\w.heap.size<W.heap.size);go_enter func62,ntmps62;go_wp2;clear eB;go_loopw [33] (fun i wr=>∃k:Nat,k<=m/\i=.int .i64 k/\Hid (ZK 3 wr (w.heap.size+2) (List.replicate k 1++List.replicate (m-k) 0))/\wr.heap[w.heap.size]?=some (.cells BA 114)/\wr.heap[w.heap.size+1]?=some (.cells #[(0:Int),.slice none 0 0] 46)/\QB w wr) (fun i _=>m-(intOf i).toNat);case atStart=>
  refine⟨0,e6 _,rfl,?_,?_,?_,?_⟩;·have:=ZK.new (T:=3) ((w.alloc (.cells BA 114)).alloc (.cells #[(0:Int),.slice none 0 0] 46)) (List.replicate m 0);simp only[P3]at this;exact i' (by simpa using this)
  .exact Qs
  .exact Qs
  .go_grown
 case round=>
  obtain⟨k,hk,rfl,hI,a,B,E⟩:=hrel;have fF:=hI.out.size;by_cases s:k<m
  .have bD:(k:Int)<(m:Int):=Qa
   have ci:=hI.out.loadD (k:=k) Qk;have fi:=hI.out.frozen k;have aQ:=i' (hI.out.store k 1);rw[BP s]at aQ;clear dF;go_wp2;go_roundw;case rel=>exact⟨k+1,Qa,Qj,aQ.out,ZC a Qg _,ZC B Qg _,E.setCell Qg _⟩
   case measure=>exact Qv
  .obtain rfl:m=k:=Qa
   have dQ:=i' (show ZK 3 wr (w.heap.size+2) (List.replicate m 1)by simpa using hI.out);obtain⟨d0,d1,d2,d3,d4⟩:=c0.out _ a;clear hI s;go_wp2;clear d0 d1 d2 d3 d4;go_loopw [7,45] (fun v7 i wr=>∃(k:Nat)(xs:List IR),k<=zn/\i=.int .i64 k/\Hid (RowsOwn wr (w.heap.size+2) v7 xs/\xs.map IR.l=List.replicate m 1::(z.take k).map (hU m))/\wr.heap[w.heap.size]?=some (.cells BA 114)/\wr.heap[w.heap.size+1]?=some (.cells #[(0:Int),.slice none 0 0] 46)/\QB w wr)(fun _ i _=>zn-(intOf i).toNat);case atStart=>exact⟨0,_,e6 _,rfl,i' ⟨RowsOwn.one dQ.out (r3 _) Qd,Qd⟩,Zz a _,Zz B _,via E (ZB _ _)⟩
   case round=>
    clear dQ a B E fF;obtain⟨k,xs,hk,rfl,f,a,B,E⟩:=hrel;have s0:=ZE a;have s1:=ZE B;by_cases s:k<zn
    .have bD:(k:Int)<(zn:Int):=Qa
     obtain⟨bz,oz,rfl,gF,cz⟩:=fZ.out wr E k s;obtain⟨i,Z⟩:∃i,z[k]?=some i:=⟨_,h' (by rw[aN.out];exact s)⟩;have bA:(natZ z).getD k 0=(i:Int):=by rw[h6,p5 Z];rfl
     rw[bA]at cz;have dC:=fL.out i (e7 Z);have fC:(i:Int)<(m:Int):=by have:=cF.out;omega
     have bZ:=i' (show (z.take (k+1)).map (hU m)=(z.take k).map (hU m)++[hU m i]by rw[r4,Z];simp);have cD:=i' (show xs.length=k+1 by have R:=D1 List.length f.out.2;rw[B3]at R;simp only[L',B3,y5]at R;rw[aN.out]at R;omega);have bR:=i' (ZK.new (T:=3) wr (List.replicate m 0));have ci:=bR.out.loadD (k:=i) Qk;have fi:=bR.out.frozen i;have aQ:=i' (bR.out.store i 1);rw[I4 Qa]at aQ;obtain⟨A7,c7,rfl⟩:=ZV f.out.1.own;have U:Below wr.heap.size wr (wr.alloc (.cells ((D9 (List.replicate m 0)).setIfInBounds i (.int .i64 1)) 3)):=ZB wr _;have aQ:=i' (show ZK 3 (wr.alloc (.cells ((D9 (List.replicate m 0)).setIfInBounds i (.int .i64 1)) 3)) wr.heap.size (hU m i)by rw[jF,I4 Qa];exact ZK.new wr _);have S:=i' (f.out.1.below U);have bG:=i' f.out.2;have eQ:=i' (show some wr.heap.size≠(Value.slice A7 xs.length c7).ownBlock from fun e=>O0 _ (f.out.1.own.lt _ e.symm).2);have Q0:=i' (Zx U a);have Q1:=i' (Zx U B);have aF:=i' (via E U);clear bA Z bR f E U a B;go_wp2_with (at_builtin;refine B6 _ rfl _ _ 116 rfl (w.heap.size+2) 28 i1 (.slice none 0 0) 1 24 underlying116 hj eK eL bB rfl Qc _ _ _ rfl (S.out.own.alloc _) ⟨wr.heap.size+1,0,none⟩ 1 1 [.slice (some wr.heap.size) m m] rfl rfl ?c1 ?c2 Qc ?c3 ?c4 ?c5 (wr.heap.size+1+1) ?c6 ?_);case c1=>exact G1 _ [.slice (some wr.heap.size) m m] _ Qd
     case c2=>intro u hu;simp at hu;subst hu;rfl
     case c3=>have:=cD.out;unfold maxLen;omega
     case c4=>have:=cD.out;omega
     case c5=>have:=aF.out.size;simp at this;simp;omega
     case c6=>simp
     intro g fX w4 I aG cN fS;have dZ:=i' (RowsOwn.push (x:=⟨some ⟨wr.heap.size,0,none⟩,m,hU m i⟩) S.out (ZB _ _) rfl ((aQ.out.at').below (ZB _ _)) Qg Qk eQ.out aG (by show w4.ownsRow _ 28 1 _ _ (_++[Value.slice (some wr.heap.size) (hU m i).length m]);rw[show (hU m i).length=m by simp[hU]];exact I) (by simpa using cN));have eC:QB w w4:=ZX (via aF.out (ZB _ _)) aG fun b e=>by have:=(S.out.own.lt b e).1;omega
     have R0:=b5 aG (Zz Q0.out _) (X1 S.out.own Qa);have C:=b5 aG (Zz Q1.out _) (X1 S.out.own Qa);have K:=i' (show (xs++[(⟨some ⟨wr.heap.size,0,none⟩,m,hU m i⟩:IR)]).map IR.l=List.replicate m 1::(z.take (k+1)).map (hU m)from by rw[b4,bG.out,bZ.out];rfl);clear I aG cN S bG Q0 Q1;go_wp2;go_roundw;case rel=>exact⟨k+1,_,Qa,Qj,⟨dZ.out,K.out⟩,R0,C,eC⟩
     case measure=>exact Qv
    .obtain rfl:zn=k:=Qa
     have aC:z.take zn=z:=by rw[<-aN.out,x1]
     rw[aC]at f;obtain⟨d0,d1,d2,d3,d4⟩:=c0.out _ a;clear s dF dJ aC;go_wp2;clear d0 d1 d2 d3 d4;go_loopw [7,63] (fun v7 i wr=>∃(k:Nat)(xs:List IR),k<=tn/\i=.int .i64 k/\Hid (RowsOwn wr (w.heap.size+2) v7 xs/\xs.map IR.l=List.replicate m 1::(z.map (hU m)++(t.take k).map fun i=>(X.getD i default).1++[(X.getD i default).2]))/\wr.heap[w.heap.size]?=some (.cells BA 114)/\wr.heap[w.heap.size+1]?=some (.cells #[(0:Int),.slice none 0 0] 46)/\QB w wr)(fun _ i _=>tn-(intOf i).toNat);case atStart=>exact⟨0,xs,e6 _,rfl,i' ⟨f.out.1,by rw[f.out.2];simp⟩,a,B,E⟩
     case round=>
      clear f a B E s0 s1;obtain⟨k,xs,hk,rfl,f,a,B,E⟩:=hrel;have s0:=ZE a;have s1:=ZE B;by_cases s:k<tn
      .have bD:(k:Int)<(tn:Int):=Qa
       obtain⟨bt,ot,rfl,gD,ct⟩:=fT.out wr E k s;obtain⟨i,Z⟩:∃i,t[k]?=some i:=⟨_,h' (by rw[bI.out];exact s)⟩;have bA:(natZ t).getD k 0=(i:Int):=by rw[h6,p5 Z];rfl
       rw[bA]at ct;have dC:=eR.out i (e7 Z);have fC:(i:Int)<(M:Int):=Qa
       obtain⟨x,be,oe,rfl,eZ,aB,cE,cC,e0,e1,e2,bJ,bL,bK⟩:=fE.out wr E i dC;have bZ:=i' (show (t.take (k+1)).map (fun i=>(X.getD i default).1++[(X.getD i default).2])=(t.take k).map (fun i=>(X.getD i default).1++[(X.getD i default).2])++[x.co++[x.mo]]by rw[r4,Z,b4,Option.toList_some,w6,M1,bL]);have cD:=i' (show xs.length<=20 by have R:=D1 List.length f.out.2;rw[B3]at R;simp only[L',hK,B3,y5]at R;rw[aN.out,bI.out]at R;omega);obtain⟨d0,d1,d2,d3,d4⟩:=c0.out _ a;obtain⟨A7,c7,rfl⟩:=ZV f.out.1.own;have bG:=i' f.out.2;have S:=i' f.out.1;have cP:=i' bJ;have bM:=i' aB;clear bA Z f aB cE cC bJ bL;have bK:=i' bK;have fK:0<np:=by have:=aO.out;omega
       go_wp2;refine e9 ?_;intro W6 cY;have aS:Below wr.heap.size wr W6:=by rw[cY];exact ZB _ _
       have H6:W6.heap[wr.heap.size]?=some (.cells #[.string x.nm,.slice x.A np x.c,x.mo] 71):=by rw[cY];exact ZA _ _ rfl
       have aT:=i' (S.out.below aS);have Q0:=Zx aS a;have Q1:=Zx aS B;have Y:=via E aS;have fG:wr.heap.size<W6.heap.size:=ZE H6;have cA:=i' (show ∀r,(Value.slice A7 xs.length c7).ownBlock=some r->w.heap.size+2<=r/\r<wr.heap.size from fun r e=>S.out.own.lt r e);have fW:=i' (cP.out.below aS);have eM:=i' fun(u:World)(hu:ZW w W6 (.slice A7 xs.length c7) u)=>(hu.2.2 _ fG (fun e=>O0 _ (cA.out _ e.symm).2)).trans H6;have cQ:=i' fun(u:World)(hu:ZW w W6 (.slice A7 xs.length c7) u)=>(by obtain⟨x',b',o',e1,-,e2,-,-,-,-,-,e3,-,e4⟩:=fE.out u hu.1 i dC;have cR:=bK.out;rw[e4]at cR;cases cR;exact e3:At 1 Zc u x.A x.co);clear cY aS S a B E cP d0 d1 d2 d3 d4 e0 e1 e2 ct;refine w7 Qb ?_;refine T' 11 _ rfl rfl Qb Qb Qb Qb ?_;simp only[sT,p'];apply UM w 1 4 7 8 9 10 np xs.length 3 (x.co.map (Value.int .i64)) [.int .i64 x.mo] (.cells #[] 3) (.cells #[x.mo] 3) (fun h=>.cells #[.slice h.a1 (np+1) h.c1] 28) (fun h=>[.slice h.a1 (np+1) h.c1]) (w.heap.size+2) 28 (.slice A7 xs.length c7) (xs.map fun x=>.slice x.A x.l.length x.c);case hB=>kernel_rfl
       case hB'=>intro g;kernel_rfl
       case hS|hN=>kernel_rfl
       case hne=>decide
       case hd1=>
        intro L hc;refine⟨fun o H h=>?_,fun o H h=>?_,fun o H h=>?_⟩;·simp at H;subst H;simp[Region.binds]at h;exact⟨by simp[h],by simp[h]⟩
        .simp at H;subst H;simp[Region.binds]at h;simp[h]
        .simp at H;subst H;simp[Region.binds]at h;simp[h]
       case hw=>exact Y
       case hv0=>intro r e;have:=(cA.out r e).1;omega
       case hown=>exact aT.out.own
       case hal0=>intro o H g y;simp only[B4,S',nK]at H;subst H;kernel_rfl
       case hal1=>intro o H g y;simp only[B4,S',nK]at H;subst H;kernel_rfl
       case hal2=>intro o H g y;simp only[B4,S',nK]at H;subst H;kernel_rfl
       case hcl=>intro o H g y q;simp only[B4,S',nK]at H;subst H;exact UN (P:=prog) (A:=x.A) (l:=x.co) (n:=np) (b:=(g 1).b) (c:=x.c) (.tmp 74) (.tmp 76) 28 3 i0 (.int .i64 0) 8 W6.heap.size bM.out Qe Qb Qb underlying28 hi dK dL dM Qe Qc (cQ.out y q) (by rw[bM.out];exact fK) (by rw[bM.out];omega) q.2.1
       case hq=>
        intro g u hu gL gE gC;have D6:=bk3 (eM.out u hu);dsimp only[mixL,yieldsC,l5,n7];simp only[mixL,mkR6,yieldsC,l5,n7,Nat.reduceAdd,Nat.reduceBEq,w0,o7,s4,S3,k4,p0,Zyk,Zyj,r5,Nat.reduceEqDiff];repeat (go_big_quiet_step (fail))
        exact Zyh rfl
       case hap1=>intro o H g y q R h2;simp only[B4,S',nK]at H;subst H;refine Exists.imp (fun v' h=>Exists.imp (fun x' h=>⟨h.1,h.2.1,h.2.2.1⟩) h) (IZ (P:=prog) (b:=(g 7).b) (v:=.slice (g 4).a1 np (g 4).c1) (u:=.int .i64 x.mo) (tb:=3) (.tmp 77) (.tmp 80) 28 3 i0 (.int .i64 0) 8 W6.heap.size np (x.co.map (Value.int .i64)) Qe Qb Qb underlying28 hi dK dL dM Qe Qc R h2 rfl Qa q.2.1)
       case hap2=>intro o H g y q R h2;simp only[B4,S',nK]at H;subst H;exact IZ (P:=prog) (.tmp 73) (.tmp 82) 116 28 i1 (.slice none 0 0) _ 24 _ _ _ _ _ _ rfl Qb Qb underlying116 hj eK eL bB rfl Qc R h2 rfl (by have:=cD.out;omega) (by have:=Y.size;have:=q.2.1;omega)
       case hind=>exact Qy
       intro g y q R h2 h3;have cH:=i' (aT.out.row6 (l:=x.co++[x.mo]) (by have:=Y.size;omega) q (by rw[b4];exact R) Qa h2 h3);have R0:=(q.2.2 _ Qa (fun e=>by have:=(cA.out _ e.symm).1;omega)).trans Q0;have C:=(q.2.2 _ Qa (fun e=>by have:=(cA.out _ e.symm).1;omega)).trans Q1;have eD:=q.1;have K:=i' (show (xs++[(⟨(g 8).a1,(g 8).c1,x.co++[x.mo]⟩:IR)]).map IR.l=List.replicate m 1::(z.map (hU m)++(t.take (k+1)).map fun i=>(X.getD i default).1++[(X.getD i default).2])from by rw[b4,bG.out,bZ.out];simp);obtain⟨A8,hA8⟩:=Qu ((g 10).a1);obtain⟨c8,eE⟩:=Qu ((g 10).c1);rw[hA8,eE]at cH;rw[hA8,eE];clear q R h2 h3 bZ bG eM cQ Q0 Q1 aT;dsimp only;go_wp2;go_roundw;case rel=>exact⟨k+1,_,Qa,Qj,⟨cH.out,K.out⟩,R0,C,eD⟩
       case measure=>exact Qv
      .obtain rfl:tn=k:=Qa
       have aC:t.take tn=t:=by rw[<-bI.out,x1]
       obtain⟨dH,K⟩:=f.out;rw[aC]at K;have aJ:xs.map IR.l=hV np X z t:=by rw[K,<-cF.out];rfl
       have aB:xs.length=np:=by have R:=D1 List.length aJ;rw[B3,BQ]at R;have:=aO.out;omega
       obtain⟨A7,c7,rfl⟩:=ZV dH.own;have gM:1<=np:=by have:=aO.out;omega
       have hS:=i' (p6 A7 xs c7 wr dH.rowsAt (fun x hx=>by have:=U5 (z:=z) (t:=t) cX.out (fun i hi=>by rw[aZ.out];exact eR.out i hi) x.l (by rw[aU.out,<-aJ];exact b3.2 ⟨x,hx,rfl⟩);omega) Qa Qa (by rw[aJ,<-aU.out];exact vU cX.out z t));rw[aJ]at hS;rw[aB]at hS |-;have bY:=i' (show (hV np X z t).length<=5/\c9 (hV np X z t)/\(hV np X z t).length=np from⟨by rw[<-aJ,B3];omega,by rw[<-aU.out];exact vU cX.out z t,by rw[<-aJ,B3];exact aB⟩);obtain⟨sl,dI⟩:=Qu (r1 (hV np X z t));have aH:=i' dI;unfold L1 at hS;rw[dI]at hS;clear dI dH f aC s aB K aJ;rcases sl with _|⟨l,den⟩
       .dsimp only at hS;have N:=i' (show hH np X z t=none by unfold hH;rw[aH.out]);go_wp2_with (go_at_call 58;refine hS.out.mono ?_;rintro e w2 ⟨rfl,aE⟩;have m:=Zx aE B;have C1:=bk2 m;have aX:=via E aE);refine e5 (v:=.tuple #[.agg #[(0:Int),.slice none 0 0],false]) ?_ rfl ⟨?_,?_⟩;·refine K2 (p:=2) (u:=3) (ad:=⟨w.heap.size+1,0,none⟩) (v:=.agg #[(0:Int),.slice none 0 0]) rfl Qe (x3 (T:=46) (cs:=[.int .i64 0,.slice none 0 0]) Qb Qb ?_);exact ZG (ZG (m) _ rfl) _ rfl
        .unfold sQ;rw[N.out]
        .first|go_grown|(repeat' (first|assumption|refine M4 ?_ Qg _))
       .dsimp only at hS;obtain⟨bX,eG,gG,eN⟩:=jH aH.out bY.out.1 bY.out.2.1;rw[bY.out.2.2]at bX;rw[bX]at hS;have G:=i' bX;have bF:=i' eN;clear eN bX bY;go_wp2_with (go_at_call 58;refine hS.out.mono ?_;rintro e w2 ⟨⟨v,rfl,hown⟩,aE⟩;obtain⟨aP,J,rfl⟩:=ZV hown;have m:=Zx aE B;have C1:=bk2 m;have aX:=via E aE;have N0:=Zx aE a;have aK:=i' hown;clear hown);refine e9 ?_;intro W8 cZ;have aV:Below w2.heap.size w2 W8:=by rw[cZ];exact ZB _ _
        have cV:W8.heap[w2.heap.size]?=some (.cells #[den,.slice aP np J] 46):=by rw[cZ];exact ZA _ _ rfl
        have aA:=i' (ZL aK.out aV);have P0:=Zx aV N0;have P1:=Zx aV m;have aY:=via aX aV;obtain⟨Q,hQ⟩:=Qu w2.heap.size;have dX:=i' (show ∀r,(Value.slice aP np J).ownBlock=some r->wr.heap.size<=r/\r<Q from fun r e=>by rw[<-hQ];exact aK.out.lt r e);have fH:=i' (show wr.heap.size<=Q by rw[<-hQ];exact aE.size);rw[hQ]at cV |-;have hcl:=i' fun(W:World)(H:W.ownsRow wr.heap.size 3 1 (.slice aP np J) np (l.map (Value.int .i64))) k (hk:k<np)=>(by
         obtain⟨g,R,h2,h3,h4⟩:=X0 H (k:=k) (u:=.int .i64 (l.getD k 0)) (by
          have:k<l.length:=by rw[G.out];exact hk
          rw[k2,h6,h' this];rfl);exact⟨g,R,h3,h4⟩:∃g,aP=some ⟨g,0,none⟩/\g<W.heap.size/\W.cell? ⟨g,k,none⟩=some (.int .i64 (l.getD k 0)));have dP:w.heap.size+2<=wr.heap.size:=Qa
        obtain⟨Bs,dO⟩:=Qu wr.heap.size;rw[dO]at aA dX fH hcl dP;clear cZ aK a B N0 m C1 E aX aV aE hS hQ dO;go_loopw [99] (fun i fN=>∃k:Nat,k<=np/\i=.int .i64 k/\Hid (∀j,j<k->¬l.getD j 0<0)/\W8=fN)(fun i _=>np-(intOf i).toNat);case atStart=>exact⟨0,e6 _,rfl,fun j hj=>Qa,rfl⟩
        case round=>
         obtain⟨k,hk,rfl,dG,rfl⟩:=hrel;by_cases s:k<np
         .have bD:(k:Int)<(np:Int):=Qa
          obtain⟨g,rfl,hg,cl⟩:=hcl.out W8 aA.out k s;obtain⟨x,hx⟩:=Qu (l.getD k 0);rw[hx]at cl;have eT:=i' hx;clear hx;by_cases eU:x<0
          .have N:=i' (show hH np X z t=none by unfold hH;rw[aH.out];simp only;rw[Zc9 (U6 (k:=k) (by rw[G.out];exact s) (by rw[eT.out];exact eU))]);have C1:=bk2 P1;go_wp2;refine e5 (v:=.tuple #[.agg #[(0:Int),.slice none 0 0],false]) ?_ rfl ⟨?_,?_⟩;·refine K2 (p:=2) (u:=3) (ad:=⟨w.heap.size+1,0,none⟩) (v:=.agg #[(0:Int),.slice none 0 0]) rfl Qe (x3 (T:=46) (cs:=[.int .i64 0,.slice none 0 0]) Qb Qb ?_);exact ZG (ZG (P1) _ rfl) _ rfl
           .unfold sQ;rw[N.out]
           .first|go_grown|(repeat' (first|assumption|refine M4 ?_ Qg _))
          .go_wp2;go_roundw;case rel=>exact⟨k+1,Qa,Qj,(fun j hj=>by
            by_cases dD:j=k;·rw[dD,eT.out];exact eU
            .exact dG.out j Qa),Qr⟩
           case measure=>exact Qv
         .obtain rfl:np=k:=Qa
          obtain⟨d0,d1,d2,d3,d4⟩:=c0.out _ P0;have cM:=i' (show l.any (·<0)=false from U' fun k hk=>dG.out k (by rw[G.out]at hk;exact hk));clear dG s;go_wp2;clear d0 d1 d2 d3 d4;go_loopw [111] (fun i eX=>∃k:Nat,k<=M/\i=.int .i64 k/\Hid (∀j,j<k->dotL (X.getD j default).1 l<=(X.getD j default).2*den)/\eX.heap[Q]?=some (.cells #[den,.slice aP np J] 46)/\QB W8 eX)(fun i _=>M-(intOf i).toNat);case atStart=>exact⟨0,e6 _,rfl,fun j hj=>Qa,cV,m' _ _⟩
          case round=>
           clear cV;obtain⟨k,hk,rfl,bH,bU,aI⟩:=hrel;have aL:=via aY aI;have O:=i' (ZL aA.out aI);by_cases s:k<M
           .have bD:(k:Int)<(M:Int):=Qa
            obtain⟨x,be,oe,rfl,eZ,aB,cE,cC,e0,e1,e2,bJ,bL,bK⟩:=fE.out wr aL k s;have cU:=i' fun W (hb:Below wr.heap.size wr W)=>U4 x.nm x.A aP x.co l x.c J np x.mo den W (bJ.below hb) (A' (ZL O.out hb)) aB G.out Qa cE cC (fun y q=>l3 (bF.out y q) Qc) Qa;have cS:=i' bL;obtain⟨d,hd⟩:=Qu (decide (dotL x.co l<=x.mo*den));rw[hd]at cU;have eF:=i' hd;have cW:=Zz bU (.cells #[.string x.nm,.slice x.A np x.c,x.mo] 71);have D:=bk2 cW;have gN:=ZE bU;clear hd bJ aB cE cC bL bK;cases d with
            |false=>
             have N:=i' (show hH np X z t=none by unfold hH;rw[aH.out];simp only;rw[q' (by rw[cM.out];decide),Zc9 (VA (k:=k) (by rw[<-aU.out,r2,aZ.out];exact s) (by rw[cS.out];exact of_decide_eq_false eF.out))]);go_wp2_with (go_at_call 86;refine(cU.out _ (ZB _ _)).mono ?_;rintro e fM ⟨rfl,aD⟩;have cG:=Zx aD cW;have V:=via (ZB wr (.cells #[.string x.nm,.slice x.A np x.c,x.mo] 71)) aD;have C:=Zx V (Zx aI P1);have C1:=bk2 C;have dA:=via aL V);refine e5 (v:=.tuple #[.agg #[(0:Int),.slice none 0 0],false]) ?_ rfl ⟨?_,?_⟩;·refine K2 (p:=2) (u:=3) (ad:=⟨w.heap.size+1,0,none⟩) (v:=.agg #[(0:Int),.slice none 0 0]) rfl Qe (x3 (T:=46) (cs:=[.int .i64 0,.slice none 0 0]) Qb Qb ?_);exact ZG (ZG (C) _ rfl) _ rfl
             .unfold sQ;rw[N.out]
             .first|go_grown|(repeat' (first|assumption|refine M4 ?_ Qg _))
            |true=>
             go_wp2_with (go_at_call 86;refine(cU.out _ (ZB _ _)).mono ?_;rintro e fM ⟨rfl,aD⟩;have cG:=Zx aD cW;have V:=via (ZB wr (.cells #[.string x.nm,.slice x.A np x.c,x.mo] 71)) aD;have C:=Zx V (Zx aI P1);have C1:=bk2 C;have dA:=via aL V);go_roundw;case rel=>exact⟨k+1,Qa,Qj,(fun j hj=>by
              by_cases dD:j=k;·rw[dD,cS.out];exact of_decide_eq_true eF.out
              .exact bH.out j Qa),cG,via aI V⟩
             case measure=>exact Qv
           .obtain rfl:M=k:=Qa
            have bN:hH np X z t=some (l.map (· / (gcdL 0 (den::l):Int)),den / (gcdL 0 (den::l):Int)):=by unfold hH;rw[aH.out];simp only;rw[q' (by rw[cM.out];decide),q' (by rw[VB fun j hj=>bH.out j (by rw[<-aU.out,r2,aZ.out]at hj;exact hj)];decide)]
            have bV:=(iB (den::l) 0).2;have eY:0<gcdL 0 (den::l):=oP den Qd Qa;have bQ:=i' fun A c w' hA=>pV A (den::l) c w' hA (by simp only[L'];rw[G.out];omega) (by
             intro x hx;rcases ZAW.1 hx with rfl|hx;·exact l3 eG Qc
             .exact l3 (bF.out x hx) Qc);have cK:(den::l).length=1+np:=by simp only[L'];rw[G.out];omega
            rw[cK]at bQ;obtain⟨F,eJ⟩:∃F:Int,((gcdL 0 (den::l):Nat):Int)=F:=⟨_,rfl⟩;rw[eJ]at bN bV bQ;have eI:0<F:=Qa
            have fB:¬F=0:=Qa
            have gK:(F==0)=false:=by simpa using fB
            have dJ:IntKind.i64.wrap (den.tdiv F)=den / F:=kZ eI (bV den Qd) eG Qc;have fI:=i' fun j (hj:j<np)=>(kZ eI (bV (l.getD j 0) (by
             have bB:j<l.length:=by rw[G.out];exact hj
             rw[h6,h' bB];exact A5 _ (D2 bB))) (bF.out.get j) Qc:IntKind.i64.wrap ((l.getD j 0).tdiv F)=l.getD j 0 / F);have bO:=i' bN;have bE:=i' fun(x:World)=>(⟨rfl,.inr ⟨x.heap.size,1,#[.int .i64 den],rfl,r3 _,ZA _ _ rfl,r3 _,Qc,rfl,rfl⟩⟩:(x.alloc (.cells #[den] 3)).ownsRow x.heap.size 3 1 (.slice (some x.heap.size) 1 1) 1 [.int .i64 den]);obtain⟨g,rfl,fR,-⟩:=hcl.out wr O.out 0 (by have:=aO.out;omega);have dY:=i' (dX.out g rfl);clear bN bV eY eJ cK bH s;go_wp2_with (at_builtin;refine C0 _ rfl _ _ 28 rfl wr.heap.size 3 i0 (.int .i64 0) 1 8 underlying28 hi dK dL dM rfl Qc _ _ _ rfl (bE.out wr) ⟨g,0,none⟩ np J (l.map (Value.int .i64)) rfl ?c0 ?c1 ?c2 ?c3 ?c4 ?c5 ?_);case c0=>rw[B3,G.out,p1]
            case c1=>
             intro j u hu;obtain⟨g',e1,-,-,e2⟩:=X0 (ZL O.out (ZB wr (.cells #[den] 3))) hu;cases e1;have e:Addr.add ⟨g,0,none⟩ j=⟨g,j,none⟩:=by unfold Addr.add;split<;>simp_all
             rw[e];exact e2
            case c2=>intro u hu;obtain⟨y,-,rfl⟩:=b3.1 hu;rfl
            case c3=>unfold maxLen;omega
            case c4=>omega
            case c5=>simp
            intro v4 w4 I aG _;obtain⟨A4,c4,rfl⟩:=ZV I;have aM:Below wr.heap.size wr w4:=ZX (ZB wr _) aG fun b e=>by cases e;exact r3 _
            have cI:=i' (show At 1 Zc w4 A4 (den::l)from A' (l:=den::l) I);have dR:=i' (ZL O.out aM);have dV:=Zx aM bU;have cJ:=via aI aM;clear I aG aM O bU aI aL;go_wp2_with (go_at_call 63;refine(bQ.out _ _ _ cI.out).mono ?_;rintro e w5 ⟨rfl,U⟩;have bT:=Zx U dV;have D:=bk2 bT);have dS:=i' (ZL dR.out U);have aW:=via cJ U;have C:=Zx aW P1;have aF:=via aY aW;obtain⟨fO,fP⟩:=dY.out;have fV:=ZE bT;clear dR dV cJ U cI bQ bE D aW P0 P1 aA aY;go_loopw [129] (fun i wr=>∃k:Nat,k<=np/\i=.int .i64 k/\Hid (wr.ownsRow Bs 3 1 (.slice (some g) np J) np (((l.take k).map (· / F)++l.drop k).map (Value.int .i64)))/\wr.heap[Q]?=some (.cells #[den,.slice (some g) np J] 46)/\wr.heap[w.heap.size+1]?=some (.cells #[(0:Int),.slice none 0 0] 46)/\QB w wr)(fun i _=>np-(intOf i).toNat);case atStart=>exact⟨0,e6 _,rfl,i' (by simpa using dS.out),bT,C,aF⟩
            case round=>
             clear dS bT C aF;obtain⟨k,hk,rfl,aR,dW,C,Y⟩:=hrel;have D:=bk2 dW;by_cases s:k<np
             .have bD:(k:Int)<(np:Int):=Qa
              have dE:k<l.length:=by rw[G.out];exact s
              obtain⟨g',e1,gH,gJ,ci⟩:=X0 aR.out (k:=k) (u:=.int .i64 (l.getD k 0)) (by rw[k2,AI dE];rfl);cases e1;have fi:=U3 aR.out k;have cT:=i' (UZ aR.out s (.int .i64 (l.getD k 0 / F)));have cO:(((l.take k).map (· / F)++l.drop k).map (Value.int .i64)).set k (.int .i64 (l.getD k 0 / F))=((l.take (k+1)).map (· / F)++l.drop (k+1)).map (Value.int .i64):=by rw[<-AH dE,jJ]
              rw[cO]at cT;have fJ:=fI.out k s;obtain⟨y,q⟩:=Qu (l.getD k 0);rw[q]at ci fJ cT;clear q dE cO aR;go_wp2;go_roundw;case rel=>exact⟨k+1,Qa,Qj,cT.out,ZC dW Qg _,ZC C Qg _,Y.setCell Qg _⟩
              case measure=>exact Qv
             .obtain rfl:np=k:=Qa
              have dU:=i' aR.out;rw[show l.take np=l by rw[<-G.out,x1],show l.drop np=[]by rw[<-G.out,List.drop_length],W5]at dU;have C1:=bk2 C;clear aR;have eO:w.heap.size+1≠Q:=Qa
              have fU:Q≠w.heap.size+1:=Qa
              have eP:g≠Q:=Qa
              have cL:g≠w.heap.size+1:=Qa
              obtain⟨d2,fA⟩:=Qu (den / F);rw[fA]at dJ bO;go_wp2;refine e5 (v:=.tuple #[.agg #[d2,.slice (some g) np J],true]) ?_ rfl ⟨?_,?_⟩;·refine K2 (p:=2) (u:=3) (ad:=⟨w.heap.size+1,0,none⟩) (v:=.agg #[d2,.slice (some g) np J]) rfl Qe (x3 (T:=46) (cs:=[.int .i64 d2,.slice (some g) np J]) Qb Qb ?_);exact ZG (ZG (ZC C eO _) _ rfl) _ rfl
              .unfold sQ;rw[bO.out];refine⟨_,_,rfl,F2 (R' dU.out fun r e=>?_) (l3 Qa dP)⟩;cases e;rw[A6 _ _ _ _ cL,A6 _ _ _ _ cL,A6 _ _ _ _ eP]
              .exact((Y.setCell Qg _).setCell Qg _).setCell Qg _
end Go.Proofs
namespace Go.Proofs
open Tryz
open Go.RowKit
attribute [local go_sem] Oper.semAt_some def SI(n k:Nat)(M:Nat->Prop)(w:World)(J:List ChV->(Nat->Prop)->World->Prop)(a B O Q:Nat)(f:Nat)(wr:World):Prop:=∃i l t T,f+i=(cmb 0 n k).length/\ChI n k M w J a B O Q i l wr t T
def qI(m n k:Nat)(P:k<=n)(hn:n<=1000)(O Q:Nat)(M:Nat->Prop)(w:World)(A:w.heap[O]?=some (.cells #[k] 3))(h2:w.heap[Q]?=some (.cells #[n] 3))(hM1:¬M O)(hM2:¬M Q)(hMw:∀j,M j->j<w.heap.size):BE Fence.wide m prog 79 #[.pointer (some O),.pointer (some Q)] W8 gvN M (fun t x W=>(t++[x]).map ChV.l<+:cmb 0 n k/\ZK 3 W x.b (natZ x.l)/\x.l.length=k)
   (fun xs=>xs.map ChV.l=cmb 0 n k) (fun t=>t.map ChV.l<+:cmb 0 n k) (cmb 0 n k).length w:=by
 intro l J Jx W hW dP cK hJ cF hY h0;have dZ:=hW.size;have g1:=hW.block O (ZE A);have g2:=hW.block Q (ZE h2);rw[A]at g1;rw[h2]at g2;have dI:=ZE A;have dJ:=ZE h2;have cO:=i' (S2 k Qa);have bQ:=cO.out;have G1:=bk1 g1;have S:=i' hJ;have cG:=i' hMw;have cH:=i' hY;have bJ:=i' hM1;have bK:=i' hM2;have cD:=i' h0;have cL:=i' (hZ 0 n k);have aG:=i' (vA 0 n k P);have aC:=i' fun i l h=>F' 0 n k (n-k) Qa i l h;have bP:=i' P;have bX:k<=1000:=Qa
 clear h0 hJ cF hY hM1 hM2 hMw A h2 P;refine callsIn_of_wp func79 rfl trivial ?_;simp only[ntmps79,A8,L',w9,Nat.reduceAdd,Nat.reduceSub,q7,jP,jO,b6,Q3,M3];gi_wp2_with fail;clear bQ G1;gi_loopw [12] (fun i wr=>∃j:Nat,j<=k/\i=.int .i64 j/\ZK 3 wr W.heap.size (D7 k j)/\W.grownBy wr none/\W.heap.size<wr.heap.size)(fun i _=>k-(intOf i).toNat);case atStart=>exact⟨0,e6 _,rfl,by have:=ZK.new (T:=3) W (List.replicate k 0);simpa [D7,natZ] using this,vM W _ none,Qd⟩
 case round=>
  obtain⟨j,hj,rfl,hm,B,bE⟩:=hrel;by_cases aY:j<k
  .have dN:(j:Int)<(k:Int):=Qa
   have cj:=hm.loadD (k:=j) (by rw[T6 hj];exact aY);have fj:=hm.frozen j;have cM:=i' (hm.store j (j:Int));have dO:IntKind.i64.wrap ((j:Int)+1)=((j+1:Nat):Int):=by rw[Int.natCast_add];exact j0 _ Qa
   gi_wp2;go_roundw;case rel=>have:=cM.out;rw[T5 aY]at this;exact⟨j+1,Qa,Qj,this,⟨B.os,B.tape,B.output,by simp;exact B.size,fun i hi _=>(A6 wr _ _ i Qk).trans (B.block i hi Qd)⟩,by simpa using bE⟩
   case measure=>exact Qv
  .obtain rfl:j=k:=Qa
   rw[T7]at hm;have bI:SI n j M w J W.heap.size W.heap.size O Q (cmb 0 n j).length wr:=⟨0,_,[],fun _=>False,Qa,rfl,rfl,aG.out,hm,S.out _ _ _ _ none cD.out B (fun r e=>by cases e),fun r h=>h.elim,(B.block _ (ZE g1) Qd).trans g1,(B.block _ (ZE g2) Qd).trans g2,r3 _,bE⟩;obtain⟨F,aU⟩:∃F:Nat->World->Prop,F=fun f wr=>SI n j M w J W.heap.size W.heap.size O Q f wr:=⟨_,rfl⟩;have aK:Hid (∀f wr,F f wr->SI n j M w J W.heap.size W.heap.size O Q f wr):=by rw[aU];exact fun _ _ h=>h
   have V:Hid (∀f wr,SI n j M w J W.heap.size W.heap.size O Q f wr->F f wr):=by rw[aU];exact fun _ _ h=>h
   have R:=i' bI;obtain⟨o,aV⟩:=Qu W.heap.size;rw[aV]at aK V R cK;have dD:=i' aV;rw[aV];clear aU bI hm B bE aY g1 g2;gi_wp2;gi_loopw [6] (fun _ wr=>∃f,F f wr)(fun _ wr=>leastOf fun f=>F f wr);case atStart=>exact⟨_,V.out _ _ R.out⟩
   case round=>
    clear R;obtain⟨f,hf⟩:∃f,(leastOf fun f=>F f wr)=f:=⟨_,rfl⟩;have aX:=(tN hrel).1;rw[hf]at aX;have cJ:=i' hf;clear hf hrel;obtain⟨i,L,t,T,dL,hc⟩:=aK.out _ _ aX;clear aX;obtain⟨aO,aP,z,aD,bU,aJ,bF,bG,bV⟩:=hc;have C1:=bk1 bF;have C2:=bk1 bG;have aT:=cL.out L (e7 z);have dM:i<(cmb 0 n j).length:=(M0.1 z).1;have bD:(t++[(⟨o,L⟩:ChV)]).map ChV.l=(cmb 0 n j).take (i+1):=by rw[b4,aP,r4,z];rfl
    have bB:(t++[(⟨o,L⟩:ChV)]).map ChV.l<+:cmb 0 n j:=by rw[bD];exact List.take_prefix _ _
    obtain⟨fn,tm,bY,bZ,N,hR⟩:=cH.out t T ⟨o,L⟩ wr bU (fun r g=>⟨by have:=(aJ r g).1;omega,(aJ r g).2.1⟩) (fun y _ r g=>g.elim) Qa ⟨bB,aD,aT⟩;have cZ:(Instr.yield l #[.slice (some o) j j]).run prog wr=.ok (.round l fn tm bY bZ) wr:=by have:=N;simp only[W8,aT]at this;exact this
    have bL:=i' hR;have dQ:(j:Int)<=(n:Int):=by have:=bP.out;omega
    have aL:=i' bD;have bS:=i' bB;have aF:=i' aJ;have aE:=i' aD;have aM:=i' bF;have aN:=i' bG;have I:=i' z;have dH:=bV.2;have bH:=i' aO;clear N hR bD bB aP bU aJ aD z bF bG bV aO;gi_wp2_with fail;clear cZ C1 C2;refine⟨fun h=>(by cases h),bL.out.mono ?_⟩;clear bL;rintro e w4 ⟨T',t1,t2,aA,(⟨rfl,U⟩|⟨rfl,U⟩)⟩
    .have bM:∀r,T' r->o<=r/\r<w4.heap.size/\r≠o:=fun r g=>by
      have h2:=t2 r g;rcases t1 r g with h|h;·have:=aF.out r h;omega
      .omega
     have aH:∀b,(b=o∨b=O∨b=Q)->¬(M b∨T b∨b=l):=by
      rintro b hb (h|h|h)
      .rcases hb with rfl|rfl|rfl;·have:=cG.out _ h;omega
       .exact bJ.out h
       .exact bK.out h
      .have:=aF.out b h;omega
      .omega
     have aQ:=aE.out.grown aA (aH o (.inl rfl));have q1:=aA.obj (aH O (.inr (.inl rfl))) aM.out;have q2:=aA.obj (aH Q (.inr (.inr rfl))) aN.out;have D1:=bk1 q1;have D2:=bk1 q2;obtain⟨m0,aZ⟩:=Qu (n-j);have cR:IntKind.i64.wrap ((j:Int)-1)=(j:Int)-1:=j0 _ Qa;have K:=i' U;have X:=i' bM;clear aA t1 t2 U bM aH aE aM aN aF;gi_wp2;gi_loopw [6] (fun aR wi=>∃a:Nat,a<=j/\aR=.int .i64 ((a:Int)-1)/\Hid (∀q y,a<=q->L[q]?=some y->y=m0+q)/\QB w4 wi)(fun aR _=>(intOf aR+1).toNat);case atStart=>exact⟨j,r3 _,rfl,fun q y hq N=>by have:=(M0.1 N).1;omega,m' _ _⟩
     case round=>
      obtain⟨a,ha,rfl,u,G⟩:=hrel;have r1:=Zx G q1;have r2:=Zx G q2;have D:=aQ.below G;have E1:=bk1 r1;have E2:=bk1 r2;have dW:IntKind.i64.wrap ((n:Int)-(j:Int))=(m0:Int):=by rw[j0 _ Qa];omega
      rcases a with _|b
      .have e0:((0:Nat):Int)-1=-1:=rfl;rw[e0];have cP:decide ((0:Int)<=-1)=false:=rfl;gi_wp2;refine sZ.2 ?_;refine c8 w4 Qb Qb G ?_;intro Z Y;repeat (go_big_quiet_step (fail))
       refine Zyh ?_;intro wb s d H;clear Z Y;have aS:=i' (S.out _ _ _ _ none K.out (IV d) (fun r e=>by cases e));have bO:Hid (i+1=(cmb 0 n j).length):=by have A:=aC.out i L I.out;rw[vB (n-j) L (fun q x C=>by rw[aZ];exact u.out q x (e6 _) C)]at A;have:=iG.1 A.symm;show _=_;omega
       gi_wp2;refine e5 (results_none rfl _ _ _) rfl ?_;exact⟨⟨_,rfl⟩,.inl ⟨_,T',by rw[aL.out,bO.out,x1],aS.out⟩⟩
      .have e0:((b+1:Nat):Int)-1=(b:Int):=Qa
       rw[e0];obtain⟨x,C⟩:∃x,L[b]?=some x:=⟨_,h' Qa⟩;have cx:=D.load (p5 C);have eB:x<n:=(Asc.lt (A7 0 n j L (e7 I.out)) x (e7 C)).2|>fun h=>Qa
       have dK:(b:Int)<(j:Int):=Qa
       have cP:decide ((0:Int)<=(b:Int))=true:=Qd
       have dF:IntKind.i64.wrap ((m0:Int)+(b:Int))=(m0:Int)+(b:Int):=j0 _ Qa;have eC:=D.size;by_cases aI:x=m0+b
       .have cW:((x:Int)==(m0:Int)+(b:Int))=true:=Qk
        have bA:=i' (show ∀q y,b<=q->L[q]?=some y->y=m0+q from fun q y hq N=>by
         rcases Nat.eq_or_lt_of_le hq with rfl|hq;·rw[C]at N;cases N;exact aI
         .exact u.out q y hq N);have cS:IntKind.i64.wrap ((b:Int)-1)=(b:Int)-1:=j0 _ Qa;clear aI u C;gi_wp2;refine sZ.2 ?_;refine c8 w4 Qb Qb G ?_;intro Z Y;repeat (go_big_quiet_step (fail))
        refine Zyh ?_;intro wb s d H;clear Z Y;gi_wp2;go_roundw;case rel=>exact⟨b,Qa,rfl,bA.out,d⟩
        case measure=>exact Qv
       .have cW:((x:Int)==(m0:Int)+(b:Int))=false:=Qk
        have cT:IntKind.i64.wrap ((x:Int)+1)=(x:Int)+1:=j0 _ Qa;have cX:=i' (show ((x:Int)+1)=((x+1:Nat):Int)by omega);have cS:IntKind.i64.wrap ((b:Int)+1)=((b+1:Nat):Int):=by rw[j0 _ Qa];omega
        have cQ:=i' ((H5 (n-j) L b x C (by rw[aZ];exact aI) (fun q y hq N=>by rw[aZ];exact u.out q y Qa N)).symm.trans (aC.out i L I.out));have cV:=i' C;have cN:=i' D;have eD:=i' r1;have eE:=i' r2;clear aI u C cR;gi_wp2;refine sZ.2 ?_;refine c8 w4 Qb Qb G ?_;intro Z Y;repeat (go_big_quiet_step (fail))
        refine Zyh ?_;intro wb s d H;clear Z Y;have s1:=Zx s r1;have s2:=Zx s r2;have E:=D.below s;have F1:=bk1 s1;have F2:=bk1 s2;have cA:=E.load (p5 cV.out);have cC:=E.frozen b;have aS:=i' (S.out _ _ _ _ none K.out (IV d) (fun r e=>by cases e));have eA:=E.size;clear E1 E2 r1 r2 D cx aQ q1 q2 D1 D2;have cI:b<L.length:=Qa
        have bW:=i' (show ZK 3 (wb.setCell ⟨o,b,none⟩ (.int .i64 ((x:Int)+1))) o (natZ (fR L b x (b+1)))from by rw[<-T8 cI,<-IU,cX.out];exact E.store b _);have dB:=i' (ZC s1 (p:=⟨o,b,none⟩) Qg (.int .i64 ((x:Int)+1)));have dC:=i' (ZC s2 (p:=⟨o,b,none⟩) Qg (.int .i64 ((x:Int)+1)));have cE:=i' (S.out _ _ _ _ (some o) aS.out (IW wb o b (.int .i64 ((x:Int)+1))) (fun r e=>by cases e;exact⟨Qa,fun h=>(X.out _ h).2.2 rfl,fun y _ h=>h⟩));gi_wp2;have dE:(wb.setCell ⟨o,b,none⟩ (.int .i64 ((x:Int)+1))).heap.size=wb.heap.size:=Qd
        generalize wb.setCell ⟨o,b,none⟩ (.int .i64 ((x:Int)+1))=w5 at*;have bN:=i' (fun r g=>by have A:=X.out r g;have h2:=d.size;exact⟨A.1,Qa,A.2.2⟩:∀r,T' r->o<=r/\r<w5.heap.size/\r≠o);clear s1 s2 F1 F2 E cA cC s d H G cT;gi_loopw [7] (fun q_ wi=>∃q:Nat,b<q/\q<=j/\q_=.int .i64 q/\Hid (ZK 3 wi o (natZ (fR L b x q))/\wi.heap[O]?=some (.cells #[j] 3)/\wi.heap[Q]?=some (.cells #[n] 3)/\J (t++[⟨o,L⟩]) T' wi/\wi.heap.size=w5.heap.size))(fun q_ _=>j-(intOf q_).toNat);case atStart=>exact⟨b+1,Qa,Qa,rfl,bW.out,dB.out,dC.out,cE.out,rfl⟩
        case round=>
         obtain⟨q,aW,dV,rfl,bR⟩:=hrel;obtain⟨u0,u1,u2,u3,u4⟩:=bR.out;clear bR;have E1:=bk1 u1;by_cases bT:q<j
         .have dU:(q:Int)<(j:Int):=Qa
          obtain⟨p,rfl⟩:∃p,q=p+1:=⟨q-1,Qa⟩;have dS:((p+1:Nat):Int)-1=(p:Int):=Qa
          have dX:IntKind.i64.wrap (((p+1:Nat):Int)-1)=(p:Int):=by rw[j0 _ Qa];omega
          have dR:(p:Int)<(j:Int):=Qa
          have cq:=u0.load (p5 (by have:=UC (l:=L) (x:=x) aW Qa;rwa [e4]at this));have cY:x+(p+1-b)<=2000:=Qa
          obtain⟨y,N⟩:=Qu (x+(p+1-b));rw[N]at cq cY;have cU:IntKind.i64.wrap ((y:Int)+1)=((y+1:Nat):Int):=by rw[j0 _ Qa];omega
          have dY:IntKind.i64.wrap (((p+1:Nat):Int)+1)=((p+1+1:Nat):Int):=by rw[j0 _ Qa];omega
          have cs:=u0.loadD (k:=p+1) (by rw[N3,UB aW Qa];omega);have fs:=u0.frozen (p+1);have dA:=i' (show ((y:Int)+1)=((y+1:Nat):Int)by omega);have v0:=i' (show ZK 3 (wr.setCell ⟨o,p+1,none⟩ (.int .i64 ((y:Int)+1))) o (natZ (fR L b x (p+1+1)))from by have:=UA (l:=L) (x:=x) aW Qa;rw[N]at this;rw[<-this,<-IU,dA.out];exact u0.store (p+1) _);have v1:=i' (ZC u1 (p:=⟨o,p+1,none⟩) Qg (.int .i64 ((y:Int)+1)));have v2:=i' (ZC u2 (p:=⟨o,p+1,none⟩) Qg (.int .i64 ((y:Int)+1)));have vJ:=i' (S.out _ _ _ _ (some o) u3 (IW wr o (p+1) (.int .i64 ((y:Int)+1))) (fun r e=>by cases e;exact⟨Qa,fun h=>(X.out _ h).2.2 rfl,fun y _ h=>h⟩));have dG:IntKind.i64.wrap ((y:Int)+1)=(y:Int)+1:=j0 _ Qa;clear cU N u0 u1 u2 u3;gi_wp2;go_roundw;case rel=>exact⟨p+1+1,Qa,Qa,rfl,v0.out,v1.out,v2.out,vJ.out,by simpa using u4⟩
          case measure=>exact Qv
         .obtain rfl:q=j:=Qa
          have aB:=i' (V.out (f-1) wr ⟨i+1,fR L b x q,t++[⟨o,L⟩],T',Qa,⟨by rw[hK,bH.out];rfl,aL.out,by have:=cQ.out;rw[<-this,<-aT,UD],u0,u3,fun r g=>by rw[u4];exact bN.out r g,u1,u2,r3 _,u0.size⟩⟩);clear u0 u1 u2 u3 bT;gi_wp2;refine⟨⟨f-1,aB.out⟩,?_⟩;rw[cJ.out];exact jM ((tN (p:=fun f=>F f wr) ⟨f-1,aB.out⟩).2 (f-1) aB.out) Qa
    .have K:=i' U;clear aA U t1 t2;gi_wp2;refine e5 (results_none rfl _ _ _) rfl ?_;exact⟨⟨_,rfl⟩,.inr ⟨_,T',bS.out,K.out⟩⟩
end Go.Proofs
namespace Go.Proofs
open Tryz
open Go.RowKit
def qJ:(Z3 (.slice none 0 0) (.slice none 0 0) (.slice none 0 0) (.slice none 0 0) [] []).toArray=#[.slice none 0 0,.slice none 0 0,.slice none 0 0,.slice none 0 0,.bool false,.bool false,.bool false,.bool false,.bool false,.bool false,.bool false,.bool false,.bool false,.bool false,.bool false,.bool false,.bool false]:=by simp[Z3,boolL,cM]
def VD(a d:Value):(Z3 a d (.slice none 0 0) (.slice none 0 0) [] []).toArray=#[a,d,.slice none 0 0,.slice none 0 0,.bool false,.bool false,.bool false,.bool false,.bool false,.bool false,.bool false,.bool false,.bool false,.bool false,.bool false,.bool false,.bool false]:=by simp[Z3,boolL,cM]
def I5(n:Nat)(z:List Nat):∀u∈boolL n z,u.oneCell'=true:=by intro u d;obtain⟨i,-,rfl⟩:=b3.1 d;rfl
def nO{b f i h:Value} {z t:List Nat} (m:b.oneCell'=true)(o:f.oneCell'=true)(p:i.oneCell'=true)(h4:h.oneCell'=true):∀u∈Z3 b f i h z t,u.oneCell'=true:=by
 intro u d;simp only[Z3,ZAW,s0]at d;rcases d with rfl|rfl|rfl|rfl|d|d;·exact m
 .exact o
 .exact p
 .exact h4
 .exact I5 _ _ _ d
 .exact I5 _ _ _ d
def BR(L H A:Option Addr)(d O j I cl:Nat)(l:List Nat)(w:World)(hl:At 1 Zc w A (natZ l))(U:Asc 0 (d+j) l)(hp:d<=5)(he:j<=8):Calls prog 57 #[.agg #[.slice L d O,.slice H j I],.slice A l.length cl] w fun e w'=>(∃zv tv,e=.returned (.agg (Z3 (.slice L d O) (.slice H j I) zv tv (zerosL d l) (tightL d l)).toArray)/\w'.ownsRow w.heap.size 3 1 zv (zerosL d l).length ((natZ (zerosL d l)).map (Value.int .i64))/\w'.ownsRow w.heap.size 3 1 tv (tightL d l).length ((natZ (tightL d l)).map (Value.int .i64)))/\QB w w':=by
 have bR:l.length<=13:=by
  have:∀(l:List Nat)(a b:Nat),Asc a b l->l.length<=b-a:=by intro l;induction l with|nil=>intro a b _;exact e6 _|cons x t ih=>intro a b h;have h1:=ih (x+1) b h.2.2;have h2:=h.1;have h3:=h.2.1;simp only[L'];omega
  have:=this l 0 _ U;omega
 have gl:=i' fun W (hb:QB w W) k (hk:k<l.length)=>e' (hl.below hb) (k:=k) (by rw[N3];exact hk);have aU:=i' fun x hx=>(Asc.lt U x hx).2;obtain⟨N,hN⟩:=Qu l.length;have bB:=i' hN;rw[hN]at gl bR |-;obtain⟨i0,hi,bK,bL,bM⟩:=x0 info3;have K:∀x,(sizeOf 114).run prog x=.ok 17 x:=fun x=>Qb
 have aK:∀x,(isAgg 114).run prog x=.ok true x:=fun x=>Qb
 obtain⟨ZF,aT⟩:=Qu (zerosL d l);obtain⟨TF,aS⟩:=Qu (tightL d l);rw[aT,aS];have aJ:=i' aT;have aI:=i' aS;clear hl U hN aT aS;go_enter func57,ntmps57;go_wp2_with (refine P0 Qh (.tmp 5) (.tmp 10) 114 Qh (w.heap.size+2) (Z3 (.slice L d O) (.slice H j I) (.slice none 0 0) (.slice none 0 0) [] []) (Z3 (.slice none 0 0) (.slice none 0 0) (.slice none 0 0) (.slice none 0 0) [] []) 114 ?sp ?sq (K _) ?sb rfl (nO rfl rfl rfl rfl) ?_);case sp=>rfl
 case sq=>rw[VD];rfl
 case sb=>rw[qJ];exact Qs
 intro w1 aM aF aN;have P:w1.heap[w.heap.size]?=some (.cells #[.slice L d O,.slice H j I] 25):=b5 aF (Qs) Qf;have bD:QB w w1:=ZX (via (ZB _ _) (via (ZB _ _) (ZB _ _))) aF (fun b e=>by have:=D3 e;omega);have bS:w1.heap.size=w.heap.size+3:=by simpa using aN
 have aA:Hid (∃c,w1.heap[w.heap.size+1]?=some (.cells c 114)/\c.size=17):=i' ⟨_,b5 aF (Qs) Qf,rfl⟩;clear aF aN;go_wp2;go_loopw [13] (fun i wr=>∃k:Nat,k<=N/\i=.int .i64 k/\wr.heap[w.heap.size]?=some (.cells #[.slice L d O,.slice H j I] 25)/\Hid (∃c,wr.heap[w.heap.size+1]?=some (.cells c 114)/\c.size=17)/\Hid (∃zv tv,BasI (w.heap.size+3) (w.heap.size+2) (.slice L d O) (.slice H j I) (zerosL d (l.take k)) (tightL d (l.take k)) zv tv wr)/\QB w wr/\w.heap.size+3<=wr.heap.size) (fun i _=>N-(intOf i).toNat);case atStart=>exact⟨0,e6 _,rfl,P,aA.out,⟨.slice none 0 0,.slice none 0 0,aM,hG _ _ _ _,hG _ _ _ _,fun g h=>by cases h⟩,bD,Qa⟩
 case round=>
  clear P aM bD bS aA;obtain⟨k,hk,rfl,P,hr,aL,aE,bX⟩:=hrel;obtain⟨zv,tv,hB⟩:=aL.out;obtain⟨Bk,Bz,Bt,aO⟩:=hB;obtain⟨F,M,rfl⟩:=ZV Bz;obtain⟨B,C,rfl⟩:=ZV Bt;have C0:=bk2 P;have CB:=GH Bk;clear aL;by_cases aW:k<N
  .have bW:(k:Int)<(N:Int):=Qa
   obtain⟨b,o,rfl,bV,ck⟩:=gl.out wr aE k aW;obtain⟨x,hx⟩:∃x,l[k]?=some x:=⟨_,h' (by rw[bB.out];exact aW)⟩;have bJ:(natZ l).getD k 0=(x:Int):=by rw[h6,p5 hx];rfl
   rw[bJ]at ck;have cD:=aU.out x (e7 hx);have aY:l.take (k+1)=l.take k++[x]:=by rw[r4,hx];rfl
   have aH:=i' (show zerosL d (l.take (k+1))=if x<d then zerosL d (l.take k)++[x]else zerosL d (l.take k)by rw[aY,UI]);have aB:=i' (show tightL d (l.take (k+1))=if x<d then tightL d (l.take k)else tightL d (l.take k)++[x-d]by rw[aY,UJ]);clear aY;have cE:(zerosL d (l.take k)).length<=13:=l3 (W6 _ _) Qk;have bY:(tightL d (l.take k)).length<=13:=by unfold tightL;rw[B3];exact l3 (W6 _ _) Qk
   generalize zerosL d (l.take k)=Z at*;generalize tightL d (l.take k)=T at*;have p:=i' Bz;have m:=i' Bt;have z:=i' Bk;have s:=i' aO;clear bJ hx Bz Bt Bk aO;by_cases D:x<d
   .have bT:(x:Int)<(d:Int):=Qa
    have cA:(x:Int)<5:=Qa
    have aC:x<5:=Qa
    have cz:=C4 z.out (nL (.slice L d O) (.slice H j I) (.slice F Z.length M) (.slice B T.length C) Z T x aC);have fz:=sN z.out (4+x);go_wp2_with (at_builtin;refine B6 _ rfl _ _ 28 rfl (w.heap.size+3) 3 i0 (.int .i64 0) 1 8 underlying28 hi bK bL bM rfl Qc _ _ _ rfl (p.out.alloc _) ⟨wr.heap.size,0,none⟩ 1 1 [.int .i64 (x:Int)] rfl rfl ?c1 ?c2 Qc ?c3 ?c4 ?c5 (wr.heap.size+1) ?c6 ?_);case c1=>exact G1 _ [.int .i64 (x:Int)] _ Qd
    case c2=>intro u hu;simp at hu;subst hu;rfl
    case c3=>unfold maxLen;omega
    case c4=>omega
    case c5=>simp;omega
    case c6=>simp
    intro g E w3 G f Y bF;have bQ:=(G.lt g rfl).1;have r:=b5 f (Zz z.out _) (X1 p.out Qa);have M3:=b5 f (Zz P _) (X1 p.out Qa);have aP:=i' (G0 (ZL m.out (ZB _ _)) f fun q Q R=>s.out q R.symm Q);have aX:Hid (∃c,w3.heap[w.heap.size+1]?=some (.cells c 114)/\c.size=17):=by obtain⟨c,h1,h2⟩:=hr.out;exact⟨c,b5 f (Zz h1 _) (X1 p.out Qa),h2⟩
    have aR:=i' (show ∀q,(Value.slice (some g) (Z.length+1) E).ownBlock=some q->(Value.slice B T.length C).ownBlock≠some q from fun q Q R=>by
     cases Q;rcases Y with h|h;·exact s.out g h R
     .have:=(m.out.lt g R).2;omega);have V:QB w w3:=ZX (via aE (ZB _ _)) f fun b e=>by have:=(p.out.lt b e).1;omega
    have bI:wr.heap.size+1<=w3.heap.size:=by have:=f.size;simpa using this
    have bN:=GH r;have bO:=C4 r (nL (.slice L d O) (.slice H j I) (.slice F Z.length M) (.slice B T.length C) Z T x aC);have bP:=sN r (4+x);have X:Hid (w3.ownsRow (w.heap.size+3) 3 1 (.slice (some g) (Z.length+1) E) (Z.length+1) ((natZ (Z++[x])).map (Value.int .i64))):=i' (by
     have e:(natZ (Z++[x])).map (Value.int .i64)=(natZ Z).map (Value.int .i64)++[.int .i64 (x:Int)]:=by simp[natZ]
     rw[e];exact G);have S:=i' r;clear CB cz fz r G f Y p m z s hr C0 P;go_wp2;go_roundw;case rel=>
     refine⟨k+1,Qa,Qj,ZC (ZC M3 Qg _) Qg _,?_,⟨.slice (some g) (Z.length+1) E,.slice B T.length C,?_,?_,?_,aR.out⟩,(V.setCell Qg _).setCell Qg _,Qk⟩;·obtain⟨c,h1,h2⟩:=aX.out;exact⟨c,ZC (ZC h1 Qg _) Qg _,h2⟩
     .rw[aH.out,aB.out,Zc9 D,Zc9 D];exact ZG (ZG S.out _ (UG ..)) _ (UE _ _ _ _ _ _ x aC)
     .rw[aH.out,Zc9 D,hK];exact EX (EX X.out Qg _) Qg _
     .rw[aB.out,Zc9 D];exact EX (EX aP.out Qg _) Qg _
    case measure=>exact Qv
   .obtain⟨y,hy⟩:=Qu (x-d);have bT:(d:Int)<=(x:Int):=Qa
    have bZ:IntKind.i64.wrap ((x:Int)-(d:Int))=(y:Int):=by rw[j0 _ Qa];omega
    have cC:(y:Int)<8:=Qa
    have aD:y<8:=Qa
    rw[hy]at aB;have cz:=C4 z.out (IX (.slice L d O) (.slice H j I) (.slice F Z.length M) (.slice B T.length C) Z T y aD);have fz:=sN z.out (9+y);clear hy;go_wp2_with (at_builtin;refine B6 _ rfl _ _ 28 rfl (w.heap.size+3) 3 i0 (.int .i64 0) 1 8 underlying28 hi bK bL bM rfl Qc _ _ _ rfl (m.out.alloc _) ⟨wr.heap.size,0,none⟩ 1 1 [.int .i64 (y:Int)] rfl rfl ?c1 ?c2 Qc ?c3 ?c4 ?c5 (wr.heap.size+1) ?c6 ?_);case c1=>exact G1 _ [.int .i64 (y:Int)] _ Qd
    case c2=>intro u hu;simp at hu;subst hu;rfl
    case c3=>unfold maxLen;omega
    case c4=>omega
    case c5=>simp;omega
    case c6=>simp
    intro g E w3 G f Y bF;have bQ:=(G.lt g rfl).1;have r:=b5 f (Zz z.out _) (X1 m.out Qa);have M3:=b5 f (Zz P _) (X1 m.out Qa);have aQ:=i' (G0 (ZL p.out (ZB _ _)) f fun q Q R=>s.out q Q R.symm);have aX:Hid (∃c,w3.heap[w.heap.size+1]?=some (.cells c 114)/\c.size=17):=by obtain⟨c,h1,h2⟩:=hr.out;exact⟨c,b5 f (Zz h1 _) (X1 m.out Qa),h2⟩
    have aR:=i' (show ∀q,(Value.slice F Z.length M).ownBlock=some q->(Value.slice (some g) (T.length+1) E).ownBlock≠some q from fun q Q R=>by
     cases R;rcases Y with h|h;·exact s.out g Q h
     .have:=(p.out.lt g Q).2;omega);have V:QB w w3:=ZX (via aE (ZB _ _)) f fun b e=>by have:=(m.out.lt b e).1;omega
    have bI:wr.heap.size+1<=w3.heap.size:=by have:=f.size;simpa using this
    have bN:=GH r;have bO:=C4 r (IX (.slice L d O) (.slice H j I) (.slice F Z.length M) (.slice B T.length C) Z T y aD);have bP:=sN r (9+y);have X:Hid (w3.ownsRow (w.heap.size+3) 3 1 (.slice (some g) (T.length+1) E) (T.length+1) ((natZ (T++[y])).map (Value.int .i64))):=i' (by
     have e:(natZ (T++[y])).map (Value.int .i64)=(natZ T).map (Value.int .i64)++[.int .i64 (y:Int)]:=by simp[natZ]
     rw[e];exact G);have S:=i' r;clear CB cz fz r G f Y p m z s hr C0 P;go_wp2;go_roundw;case rel=>
     refine⟨k+1,Qa,Qj,ZC (ZC M3 Qg _) Qg _,?_,⟨.slice F Z.length M,.slice (some g) (T.length+1) E,?_,?_,?_,aR.out⟩,(V.setCell Qg _).setCell Qg _,Qk⟩;·obtain⟨c,h1,h2⟩:=aX.out;exact⟨c,ZC (ZC h1 Qg _) Qg _,h2⟩
     .rw[aH.out,aB.out,q' D,q' D];exact ZG (ZG S.out _ (UH ..)) _ (UF _ _ _ _ _ _ y aD)
     .rw[aH.out,q' D];exact EX (EX aQ.out Qg _) Qg _
     .rw[aB.out,q' D,hK];exact EX (EX X.out Qg _) Qg _
    case measure=>exact Qv
  .obtain rfl:k=N:=Qa
   have J:l.take k=l:=by rw[<-bB.out,x1]
   clear CB;rw[J,aJ.out,aI.out]at Bk;rw[J,aJ.out]at Bz;rw[J,aI.out]at Bt;have p:=i' Bz;have m:=i' Bt;clear aW J aO Bz Bt;obtain⟨cr,aA,bG⟩:=hr.out;go_wp2_with (first
    |(refine lI Qh (.tmp 5) 114 Qh (w.heap.size+2) (Z3 (.slice L d O) (.slice H j I) (.slice F ZF.length M) (.slice B TF.length C) ZF TF) 114 ?lp (aK _) (K _) ?lb ?_)|(refine P0 Qh (.tmp 4) (.tmp 46) 114 Qh (w.heap.size+1) (Z3 (.slice L d O) (.slice H j I) (.slice F ZF.length M) (.slice B TF.length C) ZF TF) cr.toList 114 ?sp ?sq (K _) ?sb ?sl (nO rfl rfl rfl rfl) ?_));case lp=>rfl
   case lb=>exact Bk
   case sb=>rw[Array.toArray_toList];exact aA
   case sl=>rw[BC,bG];rfl
   intro w2 aV aG bU;have bE:QB w w2:=ZX aE aG fun b e=>by have:=D3 e;omega
   have bA:=G0 p.out aG fun q Q R=>by have:=(p.out.lt q Q).1;have:=D3 R;omega
   have aZ:=G0 m.out aG fun q Q R=>by have:=(m.out.lt q Q).1;have:=D3 R;omega
   have aQ:=i' bA;have aP:=i' aZ;clear Bk bA aZ p m aG aA bG C0 P hr;go_wp2;refine e5 (v:=.agg (Z3 (.slice L d O) (.slice H j I) (.slice F ZF.length M) (.slice B TF.length C) ZF TF).toArray) ?_ rfl ⟨⟨_,_,rfl,F2 (base:=w.heap.size) aQ.out (T1 _ 3),F2 (base:=w.heap.size) aP.out (T1 _ 3)⟩,bE⟩;have bH:(loadVar 114 ⟨w.heap.size+1,0,none⟩).run prog w2=.ok (.agg (Z3 (.slice L d O) (.slice H j I) (.slice F ZF.length M) (.slice B TF.length C) ZF TF).toArray) w2:=x3 (aK _) (K _) aV;exact X2 rfl rfl bH
end Go.Proofs
