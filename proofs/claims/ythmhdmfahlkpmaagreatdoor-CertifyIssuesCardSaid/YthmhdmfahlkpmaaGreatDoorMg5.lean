import Derived.Test.YthmhdmfahlkpmaaGreatDoorMg4
import Derived.RangeFuncNested
import Derived.RangeFuncBound
import Derived.Shelf.RegionOpen
import Derived.OwnWalkIn
import Derived.LoopNIn
import Derived.LoopIn
import Derived.Deep.LoopGhost
set_option linter.all false
def Qo{P:Prop}(h:P:=by simp; omega):P:=h
def Qn{P:Prop}(h:P:=by grind):P:=h
def Qh{P:Prop}(h:P:=by with_reducible rfl):P:=h
def Qg{P:Prop}(h:P:=by dsimp only;omega):P:=h
set_option maxRecDepth 100000
set_option maxHeartbeats 16000000
namespace Go
def Q0:=@World.cell?_of_block
def s9:=@World.putObj_heap_other
def tE:=@World.putObj_size
def GN:=@RowKit.ownsRow_setCell_below
def r9:=@wpList_append_lies
def nJ:=@grownBy_putObj'
def nL:=@Oper.wp_mono
def kT:=@List.map_set
def kU:=@run_append_lies
def kV:=@World.news_of_block
def oV:=@Array.all_eq_true'
def uT:=@Array.size_push
def kW:=@Nat.sub_self
def wZ:=@World.alloc_heap_new
def xB:=@World.grownBy_alloc
def rM:=@List.eq_nil_iff_forall_not_mem
def xC:=@callsIn_wide
def rN:=@Array.size_setIfInBounds
def rO:=@Int.eq_of_mul_eq_mul_left
def rQ:=@decide_eq_false_iff_not
def rR:=@List.nodup_nil
def rS:=@List.countP_eq_length
def xD:=@List.length_replicate
def JZ:=@World.putObj_heap_same
def CO:=@List.range'_1_concat
def CP:=@List.setIfInBounds_toArray
def CQ:=@Array.toList_append
def CR:=@Option.isNone_iff_eq_none
def CS:=@Int.lt_of_mul_lt_mul_left
def CU:=@Array.length_toList
def CV:=@Array.replicate_zero
def kX:=@Array.replicate_succ
def mR:=@RowKit.Below.setCell
def o7:=@Bool.or_false
def r5:=@Bool.or_self
def sS:=@Bool.or_true
def l7:=@Int.le_of_mul_le_mul_left
def iD:=@Int.not_lt
def z6:=@List.all_cons
def q5:=@List.append_nil
def l5:=@List.contains_cons
def n7:=@List.contains_nil
def F1:=@List.eq_of_mem_replicate
def uU:=@List.exists_mem_of_ne_nil
def aX:=@List.ext_getElem?
def F4:=@List.filter_append
def cN:=@List.getElem?_eq_none
def dF:=@List.getElem?_range
def F7:=@List.getElem?_set_ne
def jT:=@List.getElem?_take_of_lt
def hK:=@List.length_append
def jU:=@List.length_filter_le
def hG:=@List.length_nil
def G9:=@List.mem_append_right
def fZ:=@List.mem_cons_self
def y2:=@List.mem_singleton
def z7:=@List.nodup_cons
def M0:=@Option.getD_some
end Go
namespace Go.Proofs
open Go.RowKit
variable {M:hN} {A B W W':World}
structure Lie (M:hN)(W W':World):Prop where
 size:W.heap.size<=W'.heap.size
 same:∀k,k<W.heap.size->¬M k->W'.heap[k]?=W.heap[k]?
def Lie.refl(M:hN)(W:World):Lie M W W:=⟨sW _,fun _ _ _=>rfl⟩
def Lie.trans{C:World} (h:Lie M A B)(k:Lie M B C):Lie M A C:=⟨h9 h.size k.size,fun i d f=>(k.same i (h8 d h.size) f).trans (h.same i d f)⟩
def Lie.mono{d:hN} (h:Lie M A B)(hm:∀k,k<A.heap.size->M k->d k):Lie d A B:=⟨h.size,fun k f i=>h.same k f fun e=>i (hm k f e)⟩
def Lie.of_below(M:hN)(h:QB W W'):Lie M W W':=⟨h.size,fun k d _=>h.block k d⟩
def Lie.of_grown{a:hB} (h:W.grownBy W' a)(i:∀r,a=some r->M r):Lie M W W':=⟨h.size,fun k d f=>h.block k d fun e=>f (i k e.symm)⟩
def Lie.putObj(W:World)(l:Nat)(o:Obj)(h:M l):Lie M W (W.putObj l o):=.of_grown (nJ W l o) fun r e=>by cases e;exact h
def Lie.obj(h:Lie M W W') {k:Nat} {o:Obj} (a:¬M k)(d:W.heap[k]?=some o):W'.heap[k]?=some o:=(h.same k (bO.1 d).1 a).trans d
def uE{α:Type} (d:α->Nat->Prop)(B:Nat)(J:List α->(Nat->Prop)->World->Prop):Prop:=∀s T W W' row,J s T W->W.grownBy W' row->(∀r,row=some r->B<=r/\¬T r/\∀x∈s,¬d x r)->J s T W'
def CW{α:Type} (F:Fence)(n:Nat)(P:aA)(g:Nat)(b:bJ)(h:α->Array Value)(o:α->Nat->Prop)(M:hN)(p:List α->α->World->Prop)(S s:List α->Prop)(N:Nat)(w:World):Prop:=∀(l:Nat)(J m:List α->(Nat->Prop)->World->Prop)(W:World),QB w W->w.heap.size<=l->l<W.heap.size->uE o W.heap.size J->uE o W.heap.size m->(∀d T x f,J d T f->(∀r,T r->W.heap.size<=r/\r<f.heap.size)->(∀y∈d++[x],∀r,o y r->W.heap.size<=r)->d.length<N->p d x f->YieldAt F (n-1) P l (h x) f fun e W'=>∃i,(∀r,i r->T r∨f.heap.size<=r)/\(∀r,i r->r<W'.heap.size)/\Lie (fun k=>M k∨T k∨k=l) f W'/\((e=.returned true/\J (d++[x]) i W')∨(e=.returned false/\m (d++[x]) i W')))->J [] (fun _=>False) W->CallsIn F n P g (#[.func (.yield l) #[] #[]]++b) W fun e W'=>(∃v,e=.returned v)/\((∃a T,S a/\J a T W')∨(∃d T,s d/\m d T W'))
def VU{α:Type} (M T:hN)(I:List α->(Nat->Prop)->World->Prop)(f:Code->List α->(Nat->Prop)->World->Prop)(a:List α)(W:World):Exit->Act->World->Prop|.normal,_,W'=>∃d,(∀r,d r->T r∨W.heap.size<=r)/\(∀r,d r->r<W'.heap.size)/\Lie (fun k=>M k∨T k) W W'/\I a d W'|.ret,_,W'=>∃d,(∀r,d r->T r∨W.heap.size<=r)/\(∀r,d r->r<W'.heap.size)/\Lie (fun k=>M k∨T k) W W'/\f .ret a d W'|.exit id,_,W'=>∃d,(∀r,d r->T r∨W.heap.size<=r)/\(∀r,d r->r<W'.heap.size)/\Lie (fun k=>M k∨T k) W W'/\f (.exit id) a d W'|.goto t,_,W'=>∃d,(∀r,d r->T r∨W.heap.size<=r)/\(∀r,d r->r<W'.heap.size)/\Lie (fun k=>M k∨T k) W W'/\f (.goto t) a d W'|.panic _,_,_=>False|.outgrown,_,_=>False
variable {F:Fence} {n:Nat} {P:aA}
def VV{α:Type} {g:Operand} {ps:Array Tmp} {assign body:Code} {Q:bK} {a:Act} {w:World} (bE:F.round=none)(h1:1<=n) {gf:Nat} {lb:bJ} (hg:a.eval g=.func (.func gf) #[] lb)(aR:F.fn gf)(eg:∀args w,(callFunc gf args).run P w=.ok (.enter gf args) w) {X:α->Array Value} {C:α->Nat->Prop} {Ok:List α->α->World->Prop} {S Sp:List α->Prop} {N:Nat} (aQ:CW F (n-1) P gf lb X C M Ok S Sp N w)(hM:∀k,M k->k<w.heap.size)(bD:∀x,(X x).size=ps.size)(I:List α->(Nat->Prop)->World->Prop)(Ix:Code->List α->(Nat->Prop)->World->Prop)(Ax:List α->(Nat->Prop)->α->Act->World->Prop)(hI:uE C w.heap.size I)(hIx:∀c,uE C w.heap.size (Ix c))(hAx:∀d T x a (W:World)(l:Nat)(o o':Obj),w.heap.size<=l->¬T l->(∀y∈d++[x],¬C y l)->W.heap[l]?=some o->o.isCells=false->Ax d T x a W->Ax d T x a (W.putObj l o'))(h0:I [] (fun _=>False) w)(aB:∀(l:Nat)(d:List α)(T:hN)(x:α)(W:World),I d T W->(∀r,T r->w.heap.size<=r/\r<W.heap.size)->d.length<N->Ok d x W->(∀y∈d++[x],∀r,C y r->w.heap.size<=r)->assign.wpIn (F.inRound l) (n-1-1) P (Exit.then (fun a₁ W₁=>Lie (fun k=>M k∨T k) W W₁/\Ax d T x a₁ W₁) (fun _ _ _=>False)) {tmps:=(ps.zip (X x)).foldl (fun t (p,v)=>t.setIfInBounds p v) a.tmps,defers:=[]} W)(aJ:∀(l:Nat) (d:List α) (T:hN) (x:α) (a₁:Act) (W:World),Ax d T x a₁ W->(∀r,T r->w.heap.size<=r/\r<W.heap.size)->d.length<N->body.wpIn (F.inRound l) (n-1-1) P (VU M T I Ix (d++[x]) W) a₁ W)(aK:∀(D:Nat)(xs:List α)(T:hN)(W:World),S xs->I xs T W->D=w.heap.size->W.heap[D]?=some (.deferred (some []))->Q .normal {a with defers:={target:=.collected D,args:=#[]}::a.defers} W)(aM:∀(D:Nat)(c:Code)(d:List α)(T:hN)(W:World),Sp d->Ix c d T W->D=w.heap.size->W.heap[D]?=some (.deferred (some []))->c.wpIn F n P Q {a with defers:={target:=.collected D,args:=#[]}::a.defers} W):(Code.rangeFunc g ps assign body).wpIn F n P Q a w:=by
 refine wpIn_rangeFunc ?_;intro fn aX;rw[bE];obtain⟨i,m⟩:∃i:LoopState->Option Code->Loop,i=fun st pe=>{state:=st,pending:=pe,fn,tmps:=a.tmps,params:=ps,assign,body,defers:=w.heap.size}:=⟨_,rfl⟩;obtain⟨Z,aA⟩:=Qu ((w.alloc (.deferred (some []))).alloc (.loop (i .ready none)));have bG:Z.heap.size=w.heap.size+2:=by rw[<-aA];simp
 have aU:Z.heap[w.heap.size+1]?=some (.loop (i .ready none)):=by rw[<-aA];have:=wZ (w.alloc (.deferred (some []))) (.loop (i .ready none));rwa [hJ]at this
 have aT:Z.heap[w.heap.size]?=some (.deferred (some [])):=by rw[<-aA];exact(qR _ _ _ Qd).trans (wZ w _)
 have aS:I [] (fun _=>False) Z:=by rw[<-aA];refine hI _ _ _ _ none (hI _ _ _ _ none h0 (xB w _ none) (fun r e=>by cases e)) (xB _ _ none) (fun r e=>by cases e)
 have aW:QB w Z:=by rw[<-aA];exact((l3 _ w).alloc (sW _) _).alloc Qd _
 refine⟨w.heap.size+1,[{target:=.collected w.heap.size,args:=#[]}],Z,{target:=.fn (.func gf) lb,args:=#[.func (.yield (w.heap.size+1)) #[] #[]]},Z,gf,#[.func (.yield (w.heap.size+1)) #[] #[]]++lb,Z,?_,?_,?_,?_,fun _=>h1,?_⟩;·rw[<-aA,m];exact run_enterLoop_outer _ _ _ _ _
 .simp only[resolve,hg];simp[go_sem]
 .intro f' aO;simp[Target.leads]at aO;subst aO;exact aR
 .simp[invoke,go_sem,eg]
 .have Y:∀{A B:World} {row:hB} {k:Nat} {o:Obj},A.grownBy B row->(∀r,row=some r->Z.heap.size<=r)->k<w.heap.size+2->A.heap[k]?=some o->B.heap[k]?=some o:=fun H J hk ho=>by rw[H.block _ (bO.1 ho).1 (fun e=>by have:=J _ e.symm;omega),ho]
  have G:∀{K:List α->(Nat->Prop)->World->Prop},uE C w.heap.size K->∀{s T W} (o:Obj),K s T W->(∀r,T r->w.heap.size+2<=r)->(∀y∈s,∀r,C y r->w.heap.size+2<=r)->K s T (W.putObj (w.heap.size+1) o):=fun hK s T W o hs L hv=>hK _ _ _ _ _ hs (nJ W _ o) fun r e=>by cases e;exact⟨Qa,fun h=>by have:=L _ h;omega,fun y j h=>by have:=hv y j _ h;omega⟩
  refine(aQ (w.heap.size+1)
   (fun d T W=>I d T W/\W.heap[w.heap.size+1]?=some (.loop (i .ready none))/\W.heap[w.heap.size]?=some (.deferred (some []))/\(∀r,T r->w.heap.size+2<=r)/\(∀y∈d,∀r,C y r->w.heap.size+2<=r))
   (fun d T W=>∃c,Ix c d T W/\W.heap[w.heap.size+1]?=some (.loop (i .done (some c)))/\W.heap[w.heap.size]?=some (.deferred (some []))/\(∀r,T r->w.heap.size+2<=r)/\(∀y∈d,∀r,C y r->w.heap.size+2<=r)) Z aW Qa Qa
   (fun s T A B row hs H J=>⟨hI s T A B row hs.1 H (fun r e=>by have:=J r e;exact⟨Qa,this.2⟩),Y H (fun r e=>(J r e).1) Qa hs.2.1,Y H (fun r e=>(J r e).1) Qa hs.2.2.1,hs.2.2.2⟩)
   (fun s T A B row hs H J=>by obtain⟨c,hc,hl,hk,bF⟩:=hs;exact⟨c,hIx c s T A B row hc H (fun r e=>by have:=J r e;exact⟨Qa,this.2⟩),Y H (fun r e=>(J r e).1) Qa hl,Y H (fun r e=>(J r e).1) Qa hk,bF⟩) ?_ ⟨aS,aU,aT,fun r h=>h.elim,fun y j=>by cases j⟩).mono ?_
  .rintro d T x W ⟨hi,hl,hk,aE,bH⟩ hT aY aH aP;have j:=run_yield (P:=P) (args:=X x) hl (by rw[m];exact bD x);rw[m]at j;have aI:∀r,T r->w.heap.size<=r/\r<W.heap.size:=fun r h=>⟨by have:=aE r h;omega,(hT r h).2⟩;have u:∀y∈d++[x],∀r,C y r->w.heap.size+2<=r:=fun y j r h=>by have:=aY y j r h;omega
   have aL:¬(M (w.heap.size+1)∨T (w.heap.size+1)):=by
    rintro(h|h);·have:=hM _ h;omega
    .have:=aE _ h;omega
   have aN:¬(M w.heap.size∨T w.heap.size):=by
    rintro(h|h);·have:=hM _ h;omega
    .have:=aE _ h;omega
   refine⟨fn,_,assign,body,j,roundIn_of_wpIn aX (wpIn_mono (aB _ d T x W hi aI aH aP (fun y j r h=>by have:=u y j r h;omega)) ?_)⟩;rintro e a2 W2 hp;cases e with
   |normal=>
    obtain⟨ko,hx⟩:=hp;have aF:=ko.obj aL hl;have aZ:=ko.obj aN hk;have bC:w.heap.size+1<W2.heap.size:=(bO.1 aF).1;have bB:(W2.putObj (w.heap.size+1) (.loop {i .ready none with state:=.busy})).heap[w.heap.size+1]?=some (.loop {i .ready none with state:=.busy}):=JZ bC;have bA:(W2.putObj (w.heap.size+1) (.loop {i .ready none with state:=.busy})).heap[w.heap.size]?=some (.deferred (some [])):=(s9 Qa).trans aZ;refine⟨_,run_beginRound aF (by rw[m]),?_⟩;refine wpIn_mono (aJ _ d T x a2 _ (hAx d T x a2 _ _ _ _ Qa (fun h=>aL (.inr h)) (fun y j h=>by have:=u y j _ h;omega) aF rfl hx) (fun r h=>⟨(aI r h).1,by rw[tE];exact h8 (aI r h).2 ko.size⟩) aH) ?_;have st:Lie (fun k=>M k∨T k∨k=w.heap.size+1) W (W2.putObj (w.heap.size+1) (.loop {i .ready none with state:=.busy})):=(ko.mono (fun k _ h=>by rcases h with h|h;exact .inl h;exact .inr (.inl h))).trans (Lie.putObj _ _ _ (.inr (.inr rfl)));have aC:∀(f:Option Code) (b:World),Lie (fun k=>M k∨T k) (W2.putObj (w.heap.size+1) (.loop {i .ready none with state:=.busy})) b->(Instr.endRound (w.heap.size+1) f).run P b=.ok (.bool f.isNone) (b.putObj (w.heap.size+1) (.loop (i (if f.isNone then .ready else .done) f)))/\(b.putObj (w.heap.size+1) (.loop (i (if f.isNone then .ready else .done) f))).heap[w.heap.size+1]?=some (.loop (i (if f.isNone then .ready else .done) f))/\(b.putObj (w.heap.size+1) (.loop (i (if f.isNone then .ready else .done) f))).heap[w.heap.size]?=some (.deferred (some []))/\Lie (fun k=>M k∨T k∨k=w.heap.size+1) W (b.putObj (w.heap.size+1) (.loop (i (if f.isNone then .ready else .done) f))):=fun f b z=>by have E:=z.obj aL bB;have:=run_endRound (P:=P) f E;rw[m]at this |-;refine⟨this,JZ (bO.1 E).1,(s9 Qa).trans (z.obj aN bA),?_⟩;rw[m]at st;rw[m]at z;exact(st.trans (z.mono (fun k _ h=>by rcases h with h|h;exact .inl h;exact .inr (.inl h)))).trans (Lie.putObj _ _ _ (.inr (.inr rfl)))
    have aG:W.heap.size<=(W2.putObj (w.heap.size+1) (.loop {i .ready none with state:=.busy})).heap.size:=by rw[tE];exact ko.size
    have aD:∀O:Nat->Prop,(∀r,O r->T r∨(W2.putObj (w.heap.size+1) (.loop {i .ready none with state:=.busy})).heap.size<=r)->∀r,O r->w.heap.size+2<=r:=fun O h r J=>by
     rcases h r J with h|h;·exact aE r h
     .have:=ko.size;rw[tE]at h;have:Z.heap.size<=W.heap.size∨True:=.inr trivial;have:=(bO.1 aF).1;omega
    rintro e a3 b hp;cases e with
    |normal=>obtain⟨O,q,t2,z,R⟩:=hp;obtain⟨J,E,U,V⟩:=aC none b z;have L:=aD O q;exact⟨_,_,J,O,fun r h=>(q r h).imp id (h9 aG),fun r h=>by rw[tE];exact t2 r h,V,.inl ⟨rfl,G hI _ R L u,E,U,L,u⟩⟩|ret=>obtain⟨O,q,t2,z,R⟩:=hp;obtain⟨J,E,U,V⟩:=aC (some .ret) b z;have L:=aD O q;exact⟨_,_,J,O,fun r h=>(q r h).imp id (h9 aG),fun r h=>by rw[tE];exact t2 r h,V,.inr ⟨rfl,.ret,G (hIx _) _ R L u,E,U,L,u⟩⟩|exit id=>obtain⟨O,q,t2,z,R⟩:=hp;obtain⟨J,E,U,V⟩:=aC (some (.exit id)) b z;have L:=aD O q;exact⟨_,_,J,O,fun r h=>(q r h).imp (fun h=>h) (h9 aG),fun r h=>by rw[tE];exact t2 r h,V,.inr ⟨rfl,.exit id,G (hIx _) _ R L u,E,U,L,u⟩⟩|goto t=>obtain⟨O,q,t2,z,R⟩:=hp;obtain⟨J,E,U,V⟩:=aC (some (.goto t)) b z;have L:=aD O q;exact⟨_,_,J,O,fun r h=>(q r h).imp id (h9 aG),fun r h=>by rw[tE];exact t2 r h,V,.inr ⟨rfl,.goto t,G (hIx _) _ R L u,E,U,L,u⟩⟩|panic ch=>exact hp.elim|outgrown=>exact hp.elim
   |_=>exact hp.elim
  .rintro e W2 ⟨⟨v,rfl⟩,(⟨xs,T,hS,hi,hl,hk,L,hv⟩|⟨d,T,aV,c,hi,hl,hk,L,hv⟩)⟩;·exact⟨none,_,by have:=run_endLoop (P:=P) hl (by rw[m];simp);rw[m]at this;exact this,aK _ xs T _ hS (G hI _ hi L hv) rfl ((s9 Qa).trans hk)⟩
   .exact⟨some c,_,by have:=run_endLoop (P:=P) hl (by rw[m];simp);rw[m]at this;exact this,aM _ c d T _ aV (G (hIx c) _ hi L hv) rfl ((s9 Qa).trans hk)⟩
section
variable {ops:aG} {md:Region.Mode} {C:cC}
end
variable {l:y0} {k x j a q:Nat} {W W':World}
attribute [local go_sem] Oper.semAt_some structure ChV where
 b:Nat
 l:List Nat
def xE(x:ChV):Array Value:=#[.slice (some x.b) x.l.length x.l.length]
def ZO(l:y0):List Int:=l.map fun(a:Nat)=>(a:Int)
def gvN{α:Type} (_:α)(_:Nat):Prop:=False
def x7(l:y0):(ZO l).length=l.length:=by simp[ZO]
def RP{x:Nat} (h:l[k]?=some x):(ZO l)[k]?=some (x:Int):=by simp[ZO,h]
def J1(l:y0)(k x:Nat):(ZO l).set k (x:Int)=ZO (l.set k x):=by simp[ZO,kT]
def ZN.grown{T:aN} {B:Nat} {l:L'} (h:ZN T W B l) {M:hN} (d:Lie M W W')(hB:¬M B):ZN T W' B l:=d.obj hB h
def J2(b:QB W W'):W.grownBy W' none:=⟨b.os,b.tape,b.output,b.size,fun k d _=>b.block k d⟩
def J3(W:World) (B o:Nat) (v:Value):W.grownBy (W.setCell ⟨B,o,none⟩ v) (some B):=⟨rfl,rfl,rfl,Qd,fun k f d=>gS W _ v k fun e=>d (by rw[e])⟩
structure ChI (n k:Nat)(M:hN)(w:World)(J:List ChV->(Nat->Prop)->World->Prop)(W0 B B1 B2:Nat)(i:Nat)(l:y0)(wr:World)(pre:List ChV)(T:hN):Prop where
 plen:pre.length=i
 pre_:pre.map ChV.l=(cmb 0 n k).take i
 now:(cmb 0 n k)[i]?=some l
 mem:ZN 3 wr B (ZO l)
 jj:J pre T wr
 tt:∀r,T r->W0<=r/\r<wr.heap.size/\r≠B
 c1:wr.heap[B1]?=some (.cells #[.int .i64 k] 3 (0,0))
 c2:wr.heap[B2]?=some (.cells #[.int .i64 n] 3 (0,0))
 sz:W0<=B/\B<wr.heap.size
def R5(k j:Nat):List Int:=ZO (List.range' 0 j)++List.replicate (k-j) 0
def VW{j:Nat} (h:j<k):(R5 k j).set j (j:Int)=R5 k (j+1):=by unfold R5;rw[iA _ _ (by simp[ZO]),CO,show k-j=(k-(j+1))+1 by omega,E9];simp[ZO]
def VX(h:j<=k):(R5 k j).length=k:=by simp[R5,ZO];omega
def VY(k:Nat):R5 k k=ZO (List.range' 0 k):=by simp[R5]
def F9(l:y0) (a x q:Nat):List Nat:=l.take a++List.range' (x+1) (q-a)++l.drop q
def VZ(h:a<l.length):l.set a (x+1)=F9 l a x (a+1):=by unfold F9;rw[show a+1-a=1 by omega];simp[List.set_eq_take_append_cons_drop,h]
def V1(h:a<q)(b:q<l.length):(F9 l a x q).set q (x+(q-a)+1)=F9 l a x (q+1):=by unfold F9;rw[b7,iA _ _ Qk,Q3,iA _ _ Qk,List.length_range',show q-min a l.length-(q-a)=0 by omega,kJ b,List.set_cons_zero,show q+1-a=(q-a)+1 by omega,CO];simp;omega
def V3(h:a<q)(b:q<=l.length):(F9 l a x q).length=l.length:=by simp[F9];omega
def V4(h:a<q)(b:q<=l.length):(F9 l a x q)[q-1]?=some (x+(q-a)):=by unfold F9;rw[b7,bA Qk,Q3,aW Qk];rw[List.getElem?_range' Qa];congr 1;omega
def V5:F9 l a x l.length=l.take a++List.range' (x+1) (l.length-a):=by simp[F9]
variable {w:World} {b T:Nat} {cs:hD}
def boolL(n:Nat)(z:y0):List Value:=(List.range n).map fun i=>.bool (decide (i∈z))
def Z5(i d h f:Value)(z t:y0):List Value:=i::d::h::f::(boolL 5 z++boolL 8 t)
def oW(n k:Nat)(z:y0)(h:k<n):(boolL n z)[k]?=some (.bool (decide (k∈z))):=by simp[boolL,dF h]
def xF(m d i f:Value)(z t:y0)(k:Nat)(h:k<5):(Z5 m d i f z t)[4+k]?=some (.bool (decide (k∈z))):=by rw[aM];show (boolL 5 z++boolL 8 t)[k]?=_;rw[aW (by simp[boolL];exact h),oW 5 k z h]
def J4(c d i f:Value)(z t:y0)(k:Nat)(h:k<8):(Z5 c d i f z t)[9+k]?=some (.bool (decide (k∈t))):=by rw[aM,show k+9=(k+5)+4 by omega];show (boolL 5 z++boolL 8 t)[k+5]?=_;rw[bA (by simp[boolL]),show k+5-(boolL 5 z).length=k by simp[boolL],oW 8 k t h]
def CX(n x:Nat)(z:y0)(h:x<n):(boolL n z).set x (.bool true)=boolL n (z++[x]):=by
 apply aX;intro j;rw[dC];by_cases d:j<n
 .rw[oW n j _ d,oW n j _ d];by_cases e:x=j;·subst e;simp[boolL,h]
  .rw[q' e];have:¬j=x:=fun h=>e h.symm;simp[this]
 .have f:(boolL n z)[j]?=none:=cN (by simp[boolL];omega);have i:(boolL n (z++[x]))[j]?=none:=cN (by simp[boolL];omega);rw[f,i,q' Qa]
def V6(c d i f:Value) (z t:y0) (x:Nat) (h:x<5):(Z5 c d i f z t).toArray.setIfInBounds (4+x) (.bool true)=(Z5 c d i f (z++[x]) t).toArray:=by rw[CP,aM 4 x];congr 1;show c::d::i::f::(boolL 5 z++boolL 8 t).set x (.bool true)=_;rw[List.set_append_left _ _ (by simp[boolL];exact h),CX 5 x z h];rfl
def V8(c d i f:Value) (z t:y0) (x:Nat) (h:x<8):(Z5 c d i f z t).toArray.setIfInBounds (9+x) (.bool true)=(Z5 c d i f z (t++[x])).toArray:=by rw[CP,aM 9 x,show x+9=(x+5)+4 by omega];congr 1;show c::d::i::f::(boolL 5 z++boolL 8 t).set (x+5) (.bool true)=_;rw[iA _ _ (by simp[boolL]),show x+5-(boolL 5 z).length=x by simp[boolL],CX 8 x t h];rfl
def V9(c d h f v:Value)(z t:y0):(Z5 c d h f z t).toArray.setIfInBounds 2 v=(Z5 c d v f z t).toArray:=by simp[Z5]
def V'(c d f h v:Value)(z t:y0):(Z5 c d f h z t).toArray.setIfInBounds 3 v=(Z5 c d f v z t).toArray:=by simp[Z5]
def M4(h:w.heap[b]?=some (.cells cs.toArray T)) {k:Nat} {v:Value} (d:cs[k]?=some v):w.cell? ⟨b,k,none⟩=some v:=by unfold World.cell?;simp only[h];simpa using d
def tS(h:w.heap[b]?=some (.cells cs.toArray T))(k:Nat):w.frozen? ⟨b,k,none⟩=false:=by unfold World.frozen?;simp only[h];simp
def H0{c d i f:Value} {z t:y0} (h:w.heap[b]?=some (.cells (Z5 c d i f z t).toArray 136 (0,0))):w.cell? b=some c/\w.cell? ⟨b,1,none⟩=some d/\w.cell? ⟨b,2,none⟩=some i/\w.cell? ⟨b,3,none⟩=some f/\w.frozen? ⟨b,2,none⟩=false/\w.frozen? ⟨b,3,none⟩=false/\b<w.heap.size:=⟨M4 h rfl,M4 h rfl,M4 h rfl,M4 h rfl,tS h 2,tS h 3,ZG h⟩
def WA(c:Nat)(l:y0)(x:Nat):zerosL c (l++[x])=if x<c then zerosL c l++[x]else zerosL c l:=by unfold zerosL;rw[F4];by_cases h:x<c<;>simp[h]
def WB(c:Nat)(l:y0)(x:Nat):tightL c (l++[x])=if x<c then tightL c l else tightL c l++[x-c]:=by
 unfold tightL;rw[F4];by_cases h:x<c
 .have:¬c<=x:=Qa
  simp[h,this]
 .have:c<=x:=Qa
  simp[h,this]
structure BasI (base bb:Nat)(pv ev:Value)(z t:y0)(zv tv:Value)(wr:World):Prop where
 blk:wr.heap[bb]?=some (.cells (Z5 pv ev zv tv z t).toArray 136 (0,0))
 oz:wr.ownsRow base 3 1 zv z.length ((ZO z).map (Value.int .i64))
 ot:wr.ownsRow base 3 1 tv t.length ((ZO t).map (Value.int .i64))
 ap:∀g,zv.ownBlock=some g->tv.ownBlock≠some g
variable {w:World} {base c:Nat} {v:Value} {xs:List IR}
structure RowsOwn (wr:World)(base:Nat)(v:Value)(xs:List IR):Prop where
 own:wr.ownsRow base 30 1 v xs.length (xs.map fun x=>.slice x.A x.l.length x.c)
 row:∀x∈xs,At 1 Zc wr x.A x.l/\∀g,x.A=some g->base<=g.block/\g.block<wr.heap.size/\some g.block≠v.ownBlock
def RowsOwn.nil(wr:World)(base:Nat):RowsOwn wr base (.slice none 0 0) []:=⟨gE _ _ _ _,fun x h=>by cases h⟩
def RowsOwn.below{w':World} (h:RowsOwn w base v xs)(hb:QB w w'):RowsOwn w' base v xs:=⟨ZI h.own hb,fun x d=>⟨(h.row x d).1.below hb,fun g f=>by have:=(h.row x d).2 g f;exact⟨this.1,h8 this.2.1 hb.size,this.2.2⟩⟩⟩
def RowsOwn.rowsAt{A:i'} {n:Nat} (h:RowsOwn w base (.slice A n c) xs):cI w A xs:=by refine⟨fun k x f=>?_,fun x f=>(h.row x f).1⟩;have i:=h.own;obtain⟨r,s,e⟩:=Z3 i;cases e;obtain⟨g,p,-,m,o⟩:=X5 i (k:=k) (u:=.slice x.A x.l.length x.c) (by rw[C2,f];rfl);refine⟨g,0,p,m,fun j v d=>?_⟩;cases j with|zero=>simp[IR.cs]at d;subst d;simpa using o|succ j=>simp[IR.cs]at d
def RowsOwn.push{p I:World} (h:RowsOwn w base v xs)(E:QB w p) {x:IR} {G:Addr} (r:x.A=some G)(m:At 1 Zc p x.A x.l)(J:base<=G.block)(s:G.block<p.heap.size)(z:some G.block≠v.ownBlock)(d:p.grownBy I v.ownBlock) {g cap:Nat} (R:I.ownsRow base 30 1 (.slice (some g) (xs.length+1) cap) (xs.length+1) ((xs.map fun x=>Value.slice x.A x.l.length x.c)++[.slice x.A x.l.length x.c])) (L:v.ownBlock=some g∨g=p.heap.size):RowsOwn I base (.slice (some g) (xs.length+1) cap) (xs++[x]):=by
 have D:∀k,k<p.heap.size->some k≠v.ownBlock->some k≠some g:=fun k V K e=>by
  rcases L with h|h;·exact K (e.trans h.symm)
  .cases e;omega
 have f:∀(A:i')(l:L'),At 1 Zc p A l->(∀g,A=some g->some g.block≠v.ownBlock)->At 1 Zc I A l:=fun A l m Q k y i=>by obtain⟨b,o,r,t,O⟩:=m k y i;refine⟨b,o,r,h8 t d.size,fun j u S=>?_⟩;rw[<-O j u S];exact Q0 (a:=⟨b,o+k*1+j,none⟩) (d.block b t (Q _ r))
 refine⟨?_,fun y i=>?_⟩;·rw[hK,x0];exact R
 .rcases C1.1 i with i|i;·obtain⟨U,N⟩:=h.row y i;refine⟨f _ _ (U.below E) fun g d=>(N g d).2.2,fun a H=>?_⟩;obtain⟨Z,q2,q3⟩:=N a H;have C:=h8 q2 E.size;exact⟨Z,h8 C d.size,D _ C q3⟩
  .rw[y2]at i;subst i;refine⟨f _ _ m fun g d=>?_,fun a H=>?_⟩;·rw[r]at d;cases d;exact z
   .rw[r]at H;cases H;exact⟨J,h8 s d.size,D _ s z⟩
def J5(es:aF)(z t:y0):∀(ws:L')(k:Nat)(w:Int),proofRows es z t k (ws++[w])=proofRows es z t k ws++if k+ws.length∈z then []else [A8 es t (k+ws.length) w]
 |[],k,w=>by simp only[e9,proofRows,hG,w7]|v::ws,k,w=>by
  have:=J5 es z t ws (k+1) w;rw[show k+1+ws.length=k+(v::ws).length by simp only[y'];omega]at this;simp only[hP,proofRows];split;·exact this
  .rw[this];rfl
def mI(es:aF)(t:y0)(c j:Nat):List Int:=1::(t.take j).map fun i=>-((es.getD i default).1.getD c 0)
def WC{es:aF} {t:y0} {j i:Nat} (h:t[j]?=some i):mI es t c (j+1)=mI es t c j++[-((es.getD i default).1.getD c 0)]:=by unfold mI;rw[w9,h];simp
def WD(es:aF)(t:y0)(c:Nat)(w:Int):mI es t c t.length++[w]=A8 es t c w:=by simp[mI,A8]
def Tryz.info31:(Tryz.prog.info? 30).map (fun i=>(i.zero,i.size,i.bytes))=some (some (.slice none 0 0),1,24):=Qb
section
variable {P:aA}
def spG(d:aG)(e:y0):Bool:=e.all fun j=>match d[j]? with|some _=>true|none=>false
def rT{Q:bK} {a0:Act} {w:World} {l:bL} (w0:World)(C:cC)(sp:y0)(K:eR)(J:(Nat->Bool)->(Nat->Gh)->World->Prop)(z:(Nat->Gh)->Act)(hB:bU l.toArray=true)(hB':∀g,bU (mixL sp K g 0 l).toArray=true)(hS:Region.noSelect l.toArray=true)(hN:spG l.toArray sp=true)(hC0:C w)(hCs:∀x R,C x->QB x R->C R)(hCw:∀x,C x->QB w0 x)(h0:∀L,(∀j∈sp,L j=false)->J L (fun _=>Gh.zero) w)(hst:∀L L' g x R,(∀j∈sp,L' j=L j)->J L g x->QB x R->J L' g R)(hq:∀g u,C u->(∀(x:Grew u)(b o:Nat),b<u.heap.size->x.val.cell? ⟨b,o,none⟩=u.cell? ⟨b,o,none⟩)->Hid (∀x:Grew u,QB w0 x.val)->Hid (∀x:Grew u,C x.val)->wpQuiet P (mixL sp K g 0 l).toArray (fun w'=>∃x:Grew u,w'=x.val) (fun a'=>a'=z g) (mixL sp K g 0 l) a0)(hind:∀j∈sp,∀g h,cD (cF l.toArray j 0 l []) 0 (z g).tmps.toList=cD (cF l.toArray j 0 l []) 0 (z (upd g j h)).tmps.toList)(hwa:∀g,∀j∈sp,∀o,l.toArray[j]?=some o->Region.wanted o (yielded l.toArray (z g).tmps)=true)(hsp:∀j∈sp,∀o,l[j]?=some o->∀(L:bR)(g:bT)(x:World),J L g x->C x->QB w0 x->L j=false->(∀e∈o.after,Region.binds .any e=true->L e.on=true)->(∀(i:Nat)(o:Oper),l[i]?=some o->L i=true->∀e∈o.after,Region.binds .any e=true->L e.on=true)->cE P (fun v R=>C R/\((o.dst=none/\J (cV L j) g R)∨∃h,v=K j h/\J (cV L j) (upd g j h) R)) ((execOp (z g).eval o).run P x))(hend:∀g x,J (fun _=>true) g x->C x->QB w0 x->Q .normal (z g) x):wpAny P .any l.toArray Q l.toArray.size (Array.replicate l.toArray.size false) a0 {w with drawn:=w.drawn+1}:=by
 have H:=wV hB;have H':=fun g=>wV (hB' g);have aA:=AX hS;have N:∀g (j:Nat),(mixL sp K g 0 l).toArray[j]?=(l.toArray[j]?).map fun o=>if sp.contains j then yieldsC (K j (g j)) o else o:=fun g j=>by have:=S8 sp K g l 0 j;simpa using this
 have aI:∀(g:bT)(j:Nat)(o:Oper),(if sp.contains j=true then yieldsC (K j (g j)) o else o).dst=o.dst:=fun g j o=>by split<;>rfl
 have bH:∀(g:bT)(t:bJ)(k:Nat),yielded (mixL sp K g 0 l).toArray t k=yielded l.toArray t k:=fun g t k=>by unfold yielded;rw[N];cases l.toArray[k]? with
  |none=>rfl|some o=>simp only[bV,B5,aI]
 have aX:∀(g:bT)(o:Oper)(t:bJ),Region.wanted o (yielded (mixL sp K g 0 l).toArray t)=Region.wanted o (yielded l.toArray t):=fun g o t=>by have:yielded (mixL sp K g 0 l).toArray t=yielded l.toArray t:=funext (bH g t);rw[this]
 have aS:∀(g:bT)(j:Nat)(o:Oper) cs b,(mixL sp K g 0 l).toArray[j]?=some o->o.op≠.select cs b:=fun g j o cs b p=>by rw[N]at p;cases r:l.toArray[j]? with
  |none=>rw[r]at p;cases p|some o'=>
   rw[r]at p;simp only[bV,M3]at p;subst p;split;·simp[yieldsC]
   .exact aA j o' cs b r
 have O:=fun g u hu=>JP (H' g) (aS g) (mixL sp K g 0 l) 0 a0 (fun j=>Qd) (hq g u hu (fun x=>x.cell) (fun x=>hCw _ (hCs _ _ hu x.ok)) (fun x=>hCs _ _ hu x.ok));have S:∀g,a0.tmps.size=(z g).tmps.size:=fun g=>(O g w hC0).2.1;have aN:∀g,a0.defers=(z g).defers:=fun g=>(O g w hC0).2.2.1;have bE:∀(g:bT)(s:Nat),(∀(j:Nat)(V:Oper),l.toArray[j]?=some V->V.dst≠some s)->a0.tmps[s]?=(z g).tmps[s]?:=fun g s Y=>(O g w hC0).2.2.2 s fun j V _ r X=>by rw[N]at r;cases aP:l.toArray[j]? with|none=>rw[aP]at r;cases r|some o'=>rw[aP]at r;simp only[bV,M3]at r;exact Y j o' aP (by rw[<-X,<-r];exact(aI g j o').symm)
 have aF:∀(g:bT)(i:Nat)(o:Oper),i∉sp->l.toArray[i]?=some o->∀u,C u->∃v,YieldsIn P l.toArray (above u) o v (z g)/\∀s,o.dst=some s->s<(z g).tmps.size->(z g).tmps[s]?=some v:=by
  intro g i o hi p u hu;have hc:sp.contains i=false:=by simpa using hi
  have E:(mixL sp K g 0 l).toArray[i]?=some o:=by rw[N,p];simp[hi]
  obtain⟨v,hy,hv⟩:=(O g u hu).1 i o (k2 _) E;refine⟨v,?_,hv⟩;rw[VB];unfold YieldsIn at*;rwa [aX]at hy
 have aV:∀(g:bT)(j:Nat)(o:Oper)(d:Nat),j∈sp->l.toArray[j]?=some o->o.dst=some d->d<(z g).tmps.size->(z g).tmps[d]?=some (K j (g j)):=by
  intro g j o d r p X y;have hc:sp.contains j=true:=by simpa using r
  have E:(mixL sp K g 0 l).toArray[j]?=some (yieldsC (K j (g j)) o):=by rw[N,p];simp[r]
  obtain⟨v,hy,hv⟩:=(O g w hC0).1 j _ (k2 _) E;have:=hv d X y;rw[this];rcases hy with⟨_,h2⟩|⟨h1,_⟩
  .have h3:=h2 w ⟨⟨w,l3 _ _⟩,rfl⟩;unfold Oper.quietAt at h3;have h4:(execOp (z g).eval (yieldsC (K j (g j)) o)).run P w=.ok (.value (K j (g j))) w:=by unfold execOp yieldsC;rfl
   rw[h4]at h3;simp only[Oper.quietUpon]at h3;rw[h3.2]
  .rw[aX g,show Region.wanted (yieldsC (K j (g j)) o) (yielded l.toArray (z g).tmps)=Region.wanted o (yielded l.toArray (z g).tmps)from rfl,hwa g j r o p]at h1;cases h1
 have aM:∀(L:bR),(∀(i:Nat)(o:Oper),l.toArray[i]?=some o->L i=true->∀e∈o.after,Region.binds .any e=true->L e.on=true)->∀j,L j=false->∀d∈cF l.toArray j 0 l [],∃(i:Nat)(o:Oper),l.toArray[i]?=some o/\o.dst=some d/\L i=false:=by
  intro L Z j r;refine JV (G:=fun d=>∃(i:Nat) (o:Oper),l.toArray[i]?=some o/\o.dst=some d/\L i=false) ?_ l 0 [] (fun k=>Qd) (fun d X=>by simp at X);intro i o d p X bD;refine⟨i,o,p,X,?_⟩;rcases bD with rfl|⟨s,Y,i',o',E,bB,hL⟩;·exact r
  .obtain⟨_,e,he,hb,aE⟩:=H.look i o s i' o' p Y E bB;cases aZ:L i with
   |false=>rfl|true=>have:=Z i o p aZ e he hb;rw[aE,hL]at this;cases this
 have aJ:∀(m:bM)(a:Act)(x:World),m.size=l.toArray.size->G8 l.toArray C J z m a x->Region.ready .any l.toArray m=[]->Q .normal a x:=by
  rintro m a x hz ⟨hb,-,g,D,hJ⟩ hr;have hu:=wW H hz hr;rw[VA D hu];have:(fun j=>m.getD j true)=fun _=>true:=funext fun j=>by
   by_cases r:j<l.toArray.size;·exact hu j r
   .simp[dQ (show m.size<=j by omega)]
  rw[this]at hJ;exact hend g x hJ hb (hCw _ hb)
 have aT:∀(m:bM)(a:Act)(x:World)(i:Nat),i∈Region.ready .any l.toArray m->G8 l.toArray C J z m a x->wpOp P l.toArray Q i (fun a' R=>G8 l.toArray C J z (m.setIfInBounds i true) a' R) a x:=by
  rintro m a x i hi ⟨hb,Z,g,D,hJ⟩;obtain⟨U,o,p,aG⟩:=fF.1 hi;have aQ:=U6 H D p hi;have aH:∀(i':Nat)(o':Oper),l.toArray[i']?=some o'->(m.setIfInBounds i true).getD i' true=true->∀e∈o'.after,Region.binds .any e=true->(m.setIfInBounds i true).getD e.on true=true:=by
   intro i' o' E hL e he aB;have bI:m.getD e.on true=true:=by
    by_cases aU:i=i';·subst aU;obtain rfl:o=o':=R' (p.symm.trans E);exact nH (aG e he aB)
    .rw[R0 true aU]at hL;exact Z i' o' E hL e he aB
   by_cases aE:i=e.on;·rw[aE,rI]
   .rw[R0 true aE];exact bI
  by_cases I:i∈sp
  .have X:=hsp i I o (by simpa using p) _ g x hJ hb (hCw _ hb) U (fun e he aB=>nH (aG e he aB)) (fun i' o' E=>Z i' o' (by simpa using E));rw[<-CD (aA i o · · p) aQ]at X;unfold wpOp;simp only[p];have bF:Region.wanted o (yielded l.toArray a.tmps)=true:=by rw[CE aQ];exact hwa g i I o p
   rw[Zde bF];refine .inl (VD X ?_);rintro v R ⟨bA,hK⟩;refine⟨bA,aH,?_⟩;rw[VE];rcases hK with⟨bC,aK⟩|⟨h,rfl,aK⟩;·exact⟨g,JU H D p (fun s Y=>by rw[bC]at Y;cases Y),aK⟩
   .refine⟨upd g i h,⟨by rw[oS];exact D.1.trans ((S g).symm.trans (S _)),by rw[rG];exact D.2.1.trans ((aN g).symm.trans (aN _)),fun s Y=>?_⟩,aK⟩;by_cases aD:o.dst=some s
    .rw[aD];by_cases y:s<(z (upd g i h)).tmps.size;·rw[rH (by rw[D.1,<-S g,S (upd g i h)];exact y),aV _ i o s I p aD y];unfold upd;rw[Zde rfl]
     .rw[CG (by rw[D.1,<-S g,S (upd g i h)];exact y),dQ Qa]
    .rw[oR aD];have aW:∀(j:Nat)(V:Oper),l.toArray[j]?=some V->V.dst=some s->m.getD j true=true:=fun j V r aC=>by
      have aO:i≠j:=by rintro rfl;obtain rfl:o=V:=R' (p.symm.trans r);exact aD aC
      have:=Y j V r aC;rwa [R0 true aO]at this
     rw[D.2.2 s aW];refine VC (hind i I g h) fun hc=>?_;obtain⟨j,V,r,aC,hL⟩:=aM (fun j=>m.getD j true) Z i U s hc;have:=aW j V r aC;rw[this]at hL;cases hL
  .obtain⟨v,hy,hv⟩:=aF g i o I p x hb;have bG:=CF (aA i o · · p) (fun s Y=>(aQ s Y).symm) hy;refine U' p bG (l3 _ _) fun R aY=>⟨hCs _ _ hb aY,aH,g,JU H D p hv,?_⟩;refine hst _ _ g x R (fun j r=>?_) hJ aY;have aO:i≠j:=by rintro rfl;exact I r
   rw[R0 true aO]
 have aR:∀(f:Nat)(m:bM)(a:Act)(x:World),m.size=l.toArray.size->uS l.toArray.size m<=f->G8 l.toArray C J z m a x->wpAny P .any l.toArray Q f m a x:=by intro f;induction f with
  |zero=>
   intro m a x hz hf h;have hr:Region.ready .any l.toArray m=[]:=by rw[rM];intro i hi;obtain⟨U,o,p,_⟩:=fF.1 hi;have:=JS (n:=l.toArray.size) (D6 p) U;omega
   exact⟨hr,aJ m a x hz h hr⟩|succ f ih=>intro m a x hz hf h;refine⟨fun hr=>aJ m a x hz h hr,fun i hi=>?_⟩;obtain⟨U,o,p,_⟩:=fF.1 hi;have hl:=JS (n:=l.toArray.size) (D6 p) U;exact wpOp_mono (fun a' R h'=>ih _ a' R (by simpa using hz) Qa h') (aT m a x i hi h)
 have aL:∀j,j<l.length->(Array.replicate l.toArray.size false).getD j true=false:=fun j r=>by simp[r]
 refine aR _ _ _ _ Qd ?_ ⟨hCs _ _ hC0 (l3 _ w).drew,fun i o p hL=>?_,fun _=>Gh.zero,⟨S _,aN _,fun s Y=>?_⟩,?_⟩;·unfold uS;exact h9 (jU _ _) Qd
 .have y:=D6 p;simp only[hM]at y;rw[aL i y]at hL;cases hL
 .refine bE _ s fun j V r X=>?_;have:=Y j V r X;have y:=D6 r;simp only[hM]at y;rw[aL j y]at this;cases this
 .refine hst _ _ _ w _ (fun _ _=>rfl) (h0 _ fun j r=>?_) (l3 _ w).drew;have:∃o,l.toArray[j]?=some o:=by unfold spG at hN;have:=bP.1 hN j r;cases p:l.toArray[j]? with
   |none=>rw[p]at this;cases this|some o=>exact⟨o,rfl⟩
  obtain⟨o,p⟩:=this;have y:=D6 p;simp only[hM]at y;exact aL j y
def dM{Q:bK} {G:Act} {w:World} {l:bL} (E:World)(C:cC)(D:y0)(p:eR)(J:(Nat->Bool)->(Nat->Gh)->World->Prop)(f:(Nat->Gh)->Act)(hB:bU l.toArray=true)(hB':∀g,bU (mixL D p g 0 l).toArray=true)(hS:Region.noSelect l.toArray=true)(hN:spB l.toArray D=true)(hC0:C w)(hCs:∀x d,C x->QB x d->C d)(hCw:∀x,C x->QB E x)(h0:∀L,(∀j∈D,L j=false)->J L (fun _=>Gh.zero) w)(hst:∀L t g x d,(∀j∈D,t j=L j)->J L g x->QB x d->J t g d)(hq:∀g u,C u->(∀(x:Grew u)(b o:Nat),b<u.heap.size->x.val.cell? ⟨b,o,none⟩=u.cell? ⟨b,o,none⟩)->Hid (∀x:Grew u,QB E x.val)->Hid (∀x:Grew u,C x.val)->wpQuiet P (mixL D p g 0 l).toArray (fun z=>∃x:Grew u,z=x.val) (fun y=>y=f g) (mixL D p g 0 l) G)(hind:∀j∈D,∀g h,cD (cF l.toArray j 0 l []) 0 (f g).tmps.toList=cD (cF l.toArray j 0 l []) 0 (f (upd g j h)).tmps.toList)(hsp:∀j∈D,∀o,l[j]?=some o->∀(L:bR)(g:bT)(x:World),J L g x->C x->QB E x->L j=false->(∀e∈o.after,Region.binds .any e=true->L e.on=true)->(∀(i:Nat)(o:Oper),l[i]?=some o->L i=true->∀e∈o.after,Region.binds .any e=true->L e.on=true)->cE P (fun v d=>C d/\((o.dst=none/\J (cV L j) g d)∨∃h,v=p j h/\J (cV L j) (upd g j h) d)) ((execOp (f g).eval o).run P x))(hend:∀g x,J (fun _=>true) g x->C x->QB E x->Q .normal (f g) x):wpAny P .any l.toArray Q l.toArray.size (Array.replicate l.toArray.size false) G {w with drawn:=w.drawn+1}:=by
 have r:∀j∈D,∀o,l.toArray[j]?=some o->o.guard=none:=fun j m o s=>by unfold spB at hN;have:=bP.1 hN j m;rw[s]at this;simpa using this
 refine rT E C D p J f hB hB' hS (bP.2 fun j m=>?_) hC0 hCs hCw h0 hst hq hind (fun g j m o s=>by simp[Region.wanted,r j m o s]) hsp hend;have:=bP.1 hN j m;cases h:l.toArray[j]? with|none=>rw[h]at this;cases this|some o=>rfl
def CY{s:Nat} {Q:bK} {R:Act} {w:World} {l:bL} (E:World)(C:cC)(y:y0)(m:eR)(J:(Nat->Bool)->(Nat->Gh)->World->Prop)(f:(Nat->Gh)->Act)(Y:P.follows .mixedOrders=true)(U:bU l.toArray=true)(G:∀g,bU (mixL y m g 0 l).toArray=true)(X:Region.noSelect l.toArray=true)(V:spB l.toArray y=true)(H:C w)(I:∀x d,C x->QB x d->C d)(K:∀x,C x->QB E x)(S:∀L,(∀j∈y,L j=false)->J L (fun _=>Gh.zero) w)(O:∀L p g x d,(∀j∈y,p j=L j)->J L g x->QB x d->J p g d)(Z:∀g u,C u->(∀(x:Grew u)(b o:Nat),b<u.heap.size->x.val.cell? ⟨b,o,none⟩=u.cell? ⟨b,o,none⟩)->Hid (∀x:Grew u,QB E x.val)->Hid (∀x:Grew u,C x.val)->wpQuiet P (mixL y m g 0 l).toArray (fun t=>∃x:Grew u,t=x.val) (fun r=>r=f g) (mixL y m g 0 l) R)(D:∀j∈y,∀g h,cD (cF l.toArray j 0 l []) 0 (f g).tmps.toList=cD (cF l.toArray j 0 l []) 0 (f (upd g j h)).tmps.toList)(N:∀j∈y,∀o,l[j]?=some o->∀(L:bR)(g:bT)(x:World),J L g x->C x->QB E x->L j=false->(∀e∈o.after,Region.binds .any e=true->L e.on=true)->(∀(i:Nat)(o:Oper),l[i]?=some o->L i=true->∀e∈o.after,Region.binds .any e=true->L e.on=true)->cE P (fun v d=>C d/\((o.dst=none/\J (cV L j) g d)∨∃h,v=m j h/\J (cV L j) (upd g j h) d)) ((execOp (f g).eval o).run P x))(z:∀g x,J (fun _=>true) g x->C x->QB E x->Q .normal (f g) x):(Code.region s l.toArray true).wp P Q R w:=p5 Y (dM E C y m J f U G X V H I K S O Z D N z)
end
section
variable {P:aA}
def J6{f:aE} {o:Oper} {t:aN} {p:Operand} {b off:Nat} {n:Int} {x:World} (i:o.op=.load t p)(d:Sem.run P (isAgg t) x=.ok false x)(hp:f p=.pointer (some ⟨b,off,none⟩))(h:x.cell? ⟨b,off,none⟩=some (.int .i64 n)):(execOp f o).run P x=.ok (.value (.int .i64 n)) x:=by unfold execOp;rw[i];simp[go_sem,hp,h,d]
def oX{f:aE} {o:Oper} {t:aN} {p q:Operand} {b off:Nat} {n:Int} {u:Value} {x:World} (i:o.op=.store t p q)(d:Sem.run P (sizeOf t) x=.ok 1 x)(hp:f p=.pointer (some ⟨b,off,none⟩))(hq:f q=.int .i64 n)(h:x.cell? ⟨b,off,none⟩=some u)(r:x.frozen? ⟨b,off,none⟩=false):(execOp f o).run P x=.ok .skip (x.setCell ⟨b,off,none⟩ (.int .i64 n)):=by unfold execOp;rw[i];simp[go_sem,hp,hq,h,r,d]
def mkMAS(c n:Nat):Nat->Gh->Value:=fun j h=>if j=c then .slice (some h.b) n n else .pointer (some h.b)
def WE{id:Nat} {Q:bK} {a0:Act} {w:World} {l:bL} (C:World)(c m k n:Nat)(Y Z:Obj)(X:Gh->Obj)(s:(Nat->Gh)->Act)(hm:P.follows .mixedOrders=true)(hB:bU l.toArray=true)(hB':∀g,bU (mixL [c,m,k] (mkMAS c n) g 0 l).toArray=true)(hS:Region.noSelect l.toArray=true)(hN:spB l.toArray [c,m,k]=true)(hne:c≠m/\c≠k/\m≠k)(hkd:(match l[k]? with|some o=>o.dst.isNone|none=>false)=true)(hcl:∀L:Nat->Bool,(∀(i:Nat)(o:Oper),l[i]?=some o->L i=true->∀e∈o.after,Region.binds .any e=true->L e.on=true)->∀o,l[k]?=some o->(∀e∈o.after,Region.binds .any e=true->L e.on=true)->L c=true/\L m=true)(hw:QB C w)(hal1:∀o,l[c]?=some o->∀(g:bT) (x:World),QB w x->(execOp (s g).eval o).run P x=.ok (.value (.slice (some x.heap.size) n n)) (x.alloc Y))(hal2:∀o,l[m]?=some o->∀(g:bT) (x:World),(execOp (s g).eval o).run P x=.ok (.value (.pointer (some x.heap.size))) (x.alloc Z))(hq:∀g u,QB w u->(∀(x:Grew u)(b o:Nat),b<u.heap.size->x.val.cell? ⟨b,o,none⟩=u.cell? ⟨b,o,none⟩)->Hid (∀x:Grew u,QB C x.val)->Hid (∀x:Grew u,QB w x.val)->wpQuiet P (mixL [c,m,k] (mkMAS c n) g 0 l).toArray (fun w'=>∃x:Grew u,w'=x.val) (fun a'=>a'=s g) (mixL [c,m,k] (mkMAS c n) g 0 l) a0)(hind:∀j∈[c,m,k],∀g h,cD (cF l.toArray j 0 l []) 0 (s g).tmps.toList=cD (cF l.toArray j 0 l []) 0 (s (upd g j h)).tmps.toList)(hs:∀o,l[k]?=some o->∀(g:bT)(x:World),QB w x->x.heap[(g m).b]?=some Z->∃D,(execOp (s g).eval o).run P x=.ok .skip D/\OnlyB (g m).b x D/\D.heap[(g m).b]?=some (X (g c)))(hend:∀(g:bT)(x:World),w.heap.size<=(g c).b->w.heap.size<=(g m).b->(g c).b≠(g m).b->QB w x->QB C x->x.heap[(g c).b]?=some Y->x.heap[(g m).b]?=some (X (g c))->Q .normal (s g) x):(Code.region id l.toArray true).wp P Q a0 w:=by
 obtain⟨r,U,V⟩:=hne;refine CY C (fun x=>QB w x) [c,m,k] (mkMAS c n) (fun L g x=>(L c=false->L k=false)/\(L m=false->L k=false)/\(L c=true->w.heap.size<=(g c).b/\x.heap[(g c).b]?=some Y)/\(L m=true->w.heap.size<=(g m).b/\x.heap[(g m).b]?=some (if L k=true then X (g c)else Z))/\(L c=true->L m=true->(g c).b≠(g m).b)) s hm hB hB' hS hN (l3 _ _) (fun x D h O=>h.trans (O.mono h.size)) (fun x h=>via hw h) ?_ ?_ hq hind ?_ ?_
 .intro L h;have a1:=h c Qd;have a2:=h m Qd;have a3:=h k Qd;refine⟨fun _=>a3,fun _=>a3,fun h=>?_,fun h=>?_,fun h=>?_⟩;·rw[a1]at h;cases h
  .rw[a2]at h;cases h
  .rw[a1]at h;cases h
 .rintro L L' g x D h ⟨K,N,f,t,y⟩ O;rw[h c Qd,h m Qd,h k Qd];exact⟨K,N,fun H=>⟨(f H).1,Zx O (f H).2⟩,fun H=>⟨(t H).1,Zx O (t H).2⟩,y⟩
 .intro j hj o I L g x ⟨K,N,f,t,y⟩ d E S p G;simp only[ZBq,ZBH,ZyH]at hj;rcases hj with rfl|rfl|rfl
  .have z:=K S;refine G1 (hal1 o I g x d) ⟨JH d _,.inr ⟨{Gh.zero with b:=x.heap.size},by unfold mkMAS;rw[Zde rfl],?_,?_,?_,?_,?_⟩⟩;·intro h;rw[dN]at h;cases h
   .intro h;rw[ZM (s0 U)];exact z
   .intro _;rw[ZX];exact⟨d.size,ZA _ _ rfl⟩
   .intro h;rw[ZM (s0 r)]at h;rw[ZM (s0 U),upd_ne (s0 r),z];have:=t h;rw[z]at this;exact⟨this.1,Zz this.2 _⟩
   .intro _ h;rw[ZM (s0 r)]at h;rw[ZX,upd_ne (s0 r)];have:=ZG (t h).2;dsimp only;omega
  .have z:=N S;refine G1 (hal2 o I g x) ⟨JH d _,.inr ⟨{Gh.zero with b:=x.heap.size},by unfold mkMAS;rw[q' (s0 r)],?_,?_,?_,?_,?_⟩⟩;·intro h;rw[ZM (s0 V)];exact z
   .intro h;rw[dN]at h;cases h
   .intro h;rw[ZM r]at h;rw[upd_ne r];exact⟨(f h).1,Zz (f h).2 _⟩
   .intro _;rw[ZX,ZM (s0 V),z];exact⟨d.size,ZA _ _ rfl⟩
   .intro h _;rw[ZM r]at h;rw[ZX,upd_ne r];have:=ZG (f h).2;dsimp only;omega
  .obtain⟨J,R⟩:=hcl L G o I p;obtain⟨p1,p2⟩:=t R;rw[q' (by rw[S];decide)]at p2;obtain⟨D,r1,r2,r3⟩:=hs o I g x d p2;rw[I]at hkd;refine fU r1 ⟨d.trans (r2.below _ p1),.inl ⟨by simpa using hkd,?_,?_,?_,?_,?_⟩⟩;·intro h;rw[ZM U,J]at h;cases h
   .intro h;rw[ZM V,R]at h;cases h
   .intro _;exact⟨(f J).1,r2.keep (y J R) (f J).2⟩
   .intro _;rw[dN,Zde rfl];exact⟨p1,r3⟩
   .intro _ _;exact y J R
 .rintro g x ⟨K,N,f,t,y⟩ d E;have:=t rfl;rw[Zde rfl]at this;exact hend g x (f rfl).1 this.1 (y rfl rfl) d E (f rfl).2 this.2
def WG{id:Nat} {Q:bK} {a0:Act} {w:World} {l:bL} (w0:World)(p q k r:Nat)(b:Nat)(O R:Value)(C:Bool->Bool->Obj)(s:(Nat->Gh)->Act)(hm:P.follows .mixedOrders=true)(hB:bU l.toArray=true)(hB':∀g,bU (mixL [p,q,k,r] (fun j _=>if j=p then O else R) g 0 l).toArray=true)(hS:Region.noSelect l.toArray=true)(hN:spB l.toArray [p,q,k,r]=true)(hne:p≠q/\p≠k/\p≠r/\q≠k/\q≠r/\k≠r)(hkd:(match l[k]?,l[r]? with|some o,some o'=>o.dst.isNone&&o'.dst.isNone|_,_=>false)=true)(hcl:∀L:Nat->Bool,(∀(i:Nat)(o:Oper),l[i]?=some o->L i=true->∀e∈o.after,Region.binds .any e=true->L e.on=true)->((L k=true->L p=true/\L q=true)/\(L r=true->L p=true/\L q=true))/\(∀o,l[k]?=some o->(∀e∈o.after,Region.binds .any e=true->L e.on=true)->L p=true/\L q=true)/\(∀o,l[r]?=some o->(∀e∈o.after,Region.binds .any e=true->L e.on=true)->L p=true/\L q=true))(hw:QB w0 w)(hb:w0.heap.size<=b)(hb0:w.heap[b]?=some (C false false))(hp:∀o,l[p]?=some o->∀(g:bT)(x:World),x.heap[b]?=some (C false false)->(execOp (s g).eval o).run P x=.ok (.value O) x)(hqq:∀o,l[q]?=some o->∀(g:bT)(x:World),x.heap[b]?=some (C false false)->(execOp (s g).eval o).run P x=.ok (.value R) x)(hq:∀g u,w.grownBy u (some b)->(∀(x:Grew u)(b o:Nat),b<u.heap.size->x.val.cell? ⟨b,o,none⟩=u.cell? ⟨b,o,none⟩)->Hid (∀x:Grew u,QB w0 x.val)->Hid (∀x:Grew u,w.grownBy x.val (some b))->wpQuiet P (mixL [p,q,k,r] (fun j _=>if j=p then O else R) g 0 l).toArray (fun w'=>∃x:Grew u,w'=x.val) (fun a'=>a'=s g) (mixL [p,q,k,r] (fun j _=>if j=p then O else R) g 0 l) a0)(hind:∀j∈[p,q,k,r],∀g h,cD (cF l.toArray j 0 l []) 0 (s g).tmps.toList=cD (cF l.toArray j 0 l []) 0 (s (upd g j h)).tmps.toList)(hs1:∀o,l[k]?=some o->∀(f:Bool)(g:bT)(x:World),x.heap[b]?=some (C false f)->∃d,(execOp (s g).eval o).run P x=.ok .skip d/\OnlyB b x d/\d.heap[b]?=some (C true f))(hs2:∀o,l[r]?=some o->∀(f:Bool)(g:bT)(x:World),x.heap[b]?=some (C f false)->∃d,(execOp (s g).eval o).run P x=.ok .skip d/\OnlyB b x d/\d.heap[b]?=some (C f true))(hend:∀(g:bT)(x:World),w.grownBy x (some b)->QB w0 x->x.heap[b]?=some (C true true)->Q .normal (s g) x):(Code.region id l.toArray true).wp P Q a0 w:=by
 obtain⟨n1,n2,n3,n4,n5,n6⟩:=hne;have I:∀{x d:World},OnlyB b x d->x.grownBy d (some b):=fun {x d} h=>⟨(h.below 0 (k2 _)).os,(h.below 0 (k2 _)).tape,(h.below 0 (k2 _)).output,(h.below 0 (k2 _)).size,fun i _ hi=>h.other i fun e=>hi (by rw[e])⟩;have t:∀{x d y:World},x.grownBy d (some b)->d.grownBy y (some b)->x.grownBy y (some b):=fun h k=>World.grownBy.trans h k;refine CY w0 (fun x=>w.grownBy x (some b)) [p,q,k,r] _ (fun L g x=>x.heap[b]?=some (C (L k) (L r))) s hm hB hB' hS hN ⟨rfl,rfl,rfl,sW _,fun _ _ _=>rfl⟩ (fun x d h hb=>t h ⟨hb.os,hb.tape,hb.output,hb.size,fun k z _=>hb.block k z⟩) (fun x h=>VF hw h fun i e=>by cases e;exact hb) ?_ ?_ hq hind ?_ ?_;·intro L h;rw[h k Qd,h r Qd];exact hb0
 .rintro L L' g x d h m S;rw[h k Qd,h r Qd];exact Zx S m
 .intro j hj o G L g x m D H E N J;obtain⟨⟨Y,Z⟩,c3,c4⟩:=hcl L J;simp only[ZBq,ZBH,ZyH]at hj;rcases hj with rfl|rfl|rfl|rfl
  .have z:L k=false:=by cases h:L k;rfl;have:=(Y h).1;rw[E]at this;cases this
   have K:L r=false:=by cases h:L r;rfl;have:=(Z h).1;rw[E]at this;cases this
   rw[z,K]at m;refine G1 (hp o G g x m) ⟨D,.inr ⟨Gh.zero,by rw[Zde rfl],?_⟩⟩;rw[ZM (s0 n2),ZM (s0 n3),z,K];exact m
  .have z:L k=false:=by cases h:L k;rfl;have:=(Y h).2;rw[E]at this;cases this
   have K:L r=false:=by cases h:L r;rfl;have:=(Z h).2;rw[E]at this;cases this
   rw[z,K]at m;refine G1 (hqq o G g x m) ⟨D,.inr ⟨Gh.zero,by rw[q' (s0 n1)],?_⟩⟩;rw[ZM (s0 n4),ZM (s0 n5),z,K];exact m
  .rw[E]at m;obtain⟨d,U,V,X⟩:=hs1 o G _ g x m;refine fU U ⟨t D (I V),.inl ⟨?_,?_⟩⟩
   .rw[G]at hkd;split at hkd;·rename_i e1 e2;cases e1;simp only[aY]at hkd;simpa using hkd.1
    .cases hkd
   .rw[dN,ZM (s0 n6)];exact X
  .rw[E]at m;obtain⟨d,U,V,X⟩:=hs2 o G _ g x m;refine fU U ⟨t D (I V),.inl ⟨?_,?_⟩⟩
   .rw[G]at hkd;split at hkd;·rename_i e1 e2;cases e2;simp only[aY]at hkd;simpa using hkd.2
    .cases hkd
   .rw[dN,ZM n6];exact X
 .intro g x m D H;exact hend g x D H m
end
section
variable {P:aA}
def Z4(d w:World)(v:Value)(x:World):Prop:=QB d x/\w.heap.size<=x.heap.size/\∀k,k<w.heap.size->some k≠v.ownBlock->x.heap[k]?=w.heap[k]?
def Z4.refl{d w:World} {v:Value} (h:QB d w):Z4 d w v w:=⟨h,sW _,fun _ _ _=>rfl⟩
def Z4.below{C w x f:World} {v:Value} (h:Z4 C w v x)(hb:QB x f):Z4 C w v f:=⟨via h.1 hb,h9 h.2.1 hb.size,fun k d i=>(hb.block k (h8 d h.2.1)).trans (h.2.2 k d i)⟩
def Z4.grown{g w x p:World} {v:Value} {row:hB} (h:Z4 g w v x)(hw:g.heap.size<=w.heap.size)(s:∀r,v.ownBlock=some r->g.heap.size<=r)(f:x.grownBy p row)(m:∀r,row=some r->w.heap.size<=r∨v.ownBlock=some r):Z4 g w v p:=⟨ZS h.1 f fun b e=>by
  rcases m b e with d|d;·omega
  .exact s b d,h9 h.2.1 f.size,fun k i o=>(f.block k (h8 i h.2.1) fun e=>by
   rcases m k e.symm with d|d;·omega
   .exact o d.symm).trans (h.2.2 k i o)⟩
def mkR6(m0 c m1 d m2 n nq:Nat):Nat->Gh->Value:=fun j g=>if j=m0 then .slice (some g.b) 0 0 else if j=c then .slice g.a1 n g.c1 else if j=m1 then .slice (some g.b) 1 1 else if j=m2 then .slice (some g.b) 1 1 else if j=d then .slice g.a1 (n+1) g.c1 else .slice g.a1 (nq+1) g.c1
def WH{Q:bK} {a0:Act} {w:World} {l:bL} (w0:World)(m0 c m1 C m2 q2:Nat)(n nq:Nat)(e1:aN)(xs ys:hD)(z0 z1:Obj)(z2:Gh->Obj)(row:Gh->List Value)(U:Nat)(Y:aN)(v:Value)(X:hD)(D:(Nat->Gh)->Act)(hB:bU l.toArray=true)(hB':∀g,bU (mixL [m0,c,m1,C,m2,q2] (mkR6 m0 c m1 C m2 n nq) g 0 l).toArray=true)(hS:Region.noSelect l.toArray=true)(hN:spB l.toArray [m0,c,m1,C,m2,q2]=true)(hne:m0≠c/\m0≠m1/\m0≠C/\m0≠m2/\m0≠q2/\c≠m1/\c≠C/\c≠m2/\c≠q2/\m1≠C/\m1≠m2/\m1≠q2/\C≠m2/\C≠q2/\m2≠q2)(hd1:∀L:Nat->Bool,(∀(i:Nat)(o:Oper),l[i]?=some o->L i=true->∀e∈o.after,Region.binds .any e=true->L e.on=true)->(∀o,l[C]?=some o->(∀e∈o.after,Region.binds .any e=true->L e.on=true)->L c=true/\L m1=true)/\(∀o,l[m2]?=some o->(∀e∈o.after,Region.binds .any e=true->L e.on=true)->L C=true)/\(∀o,l[q2]?=some o->(∀e∈o.after,Region.binds .any e=true->L e.on=true)->L m2=true))(hw:QB w0 w)(hv0:∀r,v.ownBlock=some r->w0.heap.size<=r)(hown:w.ownsRow U Y 1 v nq X)(hal0:∀o,l[m0]?=some o->∀(g:bT) (x:World),(execOp (D g).eval o).run P x=.ok (.value (.slice (some x.heap.size) 0 0)) (x.alloc z0))(hcl:∀o,l[c]?=some o->∀(g:bT)(x:World),Z4 w0 w v x->∃z s,(execOp (D g).eval o).run P x=.ok (.value z) s/\s.ownsRow w.heap.size e1 1 z n xs/\QB x s)(hal1:∀o,l[m1]?=some o->∀(g:bT) (x:World),(execOp (D g).eval o).run P x=.ok (.value (.slice (some x.heap.size) 1 1)) (x.alloc z1))(hap1:∀o,l[C]?=some o->∀(g:bT) (x:World),Z4 w0 w v x->x.ownsRow w.heap.size e1 1 (.slice (g c).a1 n (g c).c1) n xs->x.heap[(g m1).b]?=some z1->∃z s,(execOp (D g).eval o).run P x=.ok (.value z) s/\s.ownsRow w.heap.size e1 1 z (n+1) (xs++ys)/\x.grownBy s (Value.slice (g c).a1 n (g c).c1).ownBlock)(hal2:∀o,l[m2]?=some o->∀(g:bT) (x:World),(execOp (D g).eval o).run P x=.ok (.value (.slice (some x.heap.size) 1 1)) (x.alloc (z2 (g C))))(hap2:∀o,l[q2]?=some o->∀(g:bT) (x:World),Z4 w0 w v x->x.ownsRow U Y 1 v nq X->x.heap[(g m2).b]?=some (z2 (g C))->∃z s,(execOp (D g).eval o).run P x=.ok (.value z) s/\s.ownsRow U Y 1 z (nq+1) (X++row (g C))/\x.grownBy s v.ownBlock/\(z.ownBlock=v.ownBlock∨z.ownBlock=some x.heap.size))(hq:∀g u,Z4 w0 w v u->(∀(x:Grew u)(b o:Nat),b<u.heap.size->x.val.cell? ⟨b,o,none⟩=u.cell? ⟨b,o,none⟩)->Hid (∀x:Grew u,QB w0 x.val)->Hid (∀x:Grew u,Z4 w0 w v x.val)->wpQuiet P (mixL [m0,c,m1,C,m2,q2] (mkR6 m0 c m1 C m2 n nq) g 0 l).toArray (fun w'=>∃x:Grew u,w'=x.val) (fun a'=>a'=D g) (mixL [m0,c,m1,C,m2,q2] (mkR6 m0 c m1 C m2 n nq) g 0 l) a0)(hind:∀j∈[m0,c,m1,C,m2,q2],∀g h,cD (cF l.toArray j 0 l []) 0 (D g).tmps.toList=cD (cF l.toArray j 0 l []) 0 (D (upd g j h)).tmps.toList)(hend:∀(g:bT) (x:World),Z4 w0 w v x->x.ownsRow w.heap.size e1 1 (.slice (g C).a1 (n+1) (g C).c1) (n+1) (xs++ys)->x.ownsRow U Y 1 (.slice (g q2).a1 (nq+1) (g q2).c1) (nq+1) (X++row (g C))->((Value.slice (g q2).a1 (nq+1) (g q2).c1).ownBlock=v.ownBlock∨∃r,(Value.slice (g q2).a1 (nq+1) (g q2).c1).ownBlock=some r/\w.heap.size<=r/\some r≠(Value.slice (g C).a1 (n+1) (g C).c1).ownBlock)->Q .normal (D g) x):wpAny P .any l.toArray Q l.toArray.size (Array.replicate l.toArray.size false) a0 {w with drawn:=w.drawn+1}:=by
 obtain⟨o1,o2,o3,o4,o5,n1,n2,n3,n4,n5,n6,n7,n8,n9,G⟩:=hne;have R:∀r,v.ownBlock=some r->r<w.heap.size:=fun r e=>(hown.lt r e).2;refine dM w0 (Z4 w0 w v) [m0,c,m1,C,m2,q2] (mkR6 m0 c m1 C m2 n nq) (fun L g x=>((L C=true->L c=true/\L m1=true)/\(L m2=true->L C=true)/\(L q2=true->L m2=true))/\(L C=false->L c=true->x.ownsRow w.heap.size e1 1 (.slice (g c).a1 n (g c).c1) n xs)/\(L C=false->L m1=true->w.heap.size<=(g m1).b/\x.heap[(g m1).b]?=some z1)/\(L C=true->x.ownsRow w.heap.size e1 1 (.slice (g C).a1 (n+1) (g C).c1) (n+1) (xs++ys))/\(L q2=false->L m2=true->w.heap.size<=(g m2).b/\x.heap[(g m2).b]?=some (z2 (g C)))/\(L q2=false->x.ownsRow U Y 1 v nq X)/\(L q2=true->x.ownsRow U Y 1 (.slice (g q2).a1 (nq+1) (g q2).c1) (nq+1) (X++row (g C))/\((Value.slice (g q2).a1 (nq+1) (g q2).c1).ownBlock=v.ownBlock∨∃r,(Value.slice (g q2).a1 (nq+1) (g q2).c1).ownBlock=some r/\w.heap.size<=r/\some r≠(Value.slice (g C).a1 (n+1) (g C).c1).ownBlock))) D hB hB' hS hN (Z4.refl hw) (fun x s h y=>h.below y) (fun x h=>h.1) ?_ ?_ hq hind ?_ ?_;·intro L h;have a1:=h c Qd;have a2:=h m1 Qd;have a3:=h C Qd;have a4:=h m2 Qd;have a5:=h q2 Qd;rw[a1,a2,a3,a4,a5];exact⟨⟨(fun h=>by cases h),(fun h=>by cases h),(fun h=>by cases h)⟩,(fun _ h=>by cases h),(fun _ h=>by cases h),(fun h=>by cases h),(fun _ h=>by cases h),fun _=>hown,(fun h=>by cases h)⟩
 .rintro L L' g x s h ⟨j0,j1,j2,j3,j4,K,N⟩ y;have a1:=h c Qd;have a2:=h m1 Qd;have a3:=h C Qd;have a4:=h m2 Qd;have a5:=h q2 Qd;rw[a1,a2,a3,a4,a5];exact⟨j0,fun h m=>ZI (j1 h m) y,fun h m=>⟨(j2 h m).1,Zx y (j2 h m).2⟩,fun h=>ZI (j3 h) y,fun h m=>⟨(j4 h m).1,Zx y (j4 h m).2⟩,fun h=>ZI (K h) y,fun h=>⟨ZI (N h).1 y,(N h).2⟩⟩
 .intro j hj o I L g x ⟨⟨k1,k2,k3⟩,j1,j2,j3,j4,K,N⟩ t aA J f Z;obtain⟨d1,d2,d3⟩:=hd1 L Z;have S:L C=false->L m2=false/\L q2=false:=fun h=>by
   have a:L m2=false:=by cases H:L m2 with|false=>rfl|true=>rw[k2 H]at h;cases h
   refine⟨a,?_⟩;cases H:L q2 with|false=>rfl|true=>rw[k3 H]at a;cases a
  have aC:L m2=false->L q2=false:=fun h=>by cases H:L q2 with
   |false=>rfl|true=>rw[k3 H]at h;cases h
  have nc:L c=false->L C=false:=fun h=>by cases H:L C with|false=>rfl|true=>rw[(k1 H).1]at h;cases h
  have aB:L m1=false->L C=false:=fun h=>by cases H:L C with
   |false=>rfl|true=>rw[(k1 H).2]at h;cases h
  simp only[ZBq,ZBH,ZyH]at hj;rcases hj with rfl|rfl|rfl|rfl|rfl|rfl;·refine G1 (hal0 o I g x) ⟨t.below (ZC _ _),.inr ⟨{Gh.zero with b:=x.heap.size},by simp[mkR6],?_⟩⟩;rw[ZM (s0 o1),ZM (s0 o2),ZM (s0 o3),ZM (s0 o4),ZM (s0 o5),upd_ne (s0 o1),upd_ne (s0 o2),upd_ne (s0 o3),upd_ne (s0 o4),upd_ne (s0 o5)];have y:=ZC x z0;exact⟨⟨k1,k2,k3⟩,fun h m=>ZI (j1 h m) y,fun h m=>⟨(j2 h m).1,Zx y (j2 h m).2⟩,fun h=>ZI (j3 h) y,fun h m=>⟨(j4 h m).1,Zx y (j4 h m).2⟩,fun h=>ZI (K h) y,fun h=>⟨ZI (N h).1 y,(N h).2⟩⟩
  .have p:=nc J;obtain⟨l2,E⟩:=S p;obtain⟨z,s,r1,p1,p2⟩:=hcl o I g x t;obtain⟨A,cp,rfl⟩:=Z3 p1;refine G1 r1 ⟨t.below p2,.inr ⟨{Gh.zero with a1:=A,c1:=cp},by simp[mkR6,s0 o1],?_⟩⟩;rw[dN,ZM (s0 n1),ZM (s0 n2),ZM (s0 n3),ZM (s0 n4),ZX,upd_ne (s0 n1),upd_ne (s0 n2),upd_ne (s0 n3),upd_ne (s0 n4),p,l2,E];exact⟨⟨(fun h=>by cases h),(fun h=>by cases h),(fun h=>by cases h)⟩,fun _ _=>p1,fun h m=>⟨(j2 p m).1,Zx p2 (j2 p m).2⟩,(fun h=>by cases h),(fun _ h=>by cases h),fun _=>ZI (K E) p2,(fun h=>by cases h)⟩
  .have p:=aB J;obtain⟨l2,E⟩:=S p;refine G1 (hal1 o I g x) ⟨t.below (ZC _ _),.inr ⟨{Gh.zero with b:=x.heap.size},by simp[mkR6,s0 n1,s0 o2],?_⟩⟩;rw[dN,ZM n1,ZM (s0 n5),ZM (s0 n6),ZM (s0 n7),ZX,upd_ne n1,upd_ne (s0 n5),upd_ne (s0 n6),upd_ne (s0 n7),p,l2,E];exact⟨⟨(fun h=>by cases h),(fun h=>by cases h),(fun h=>by cases h)⟩,fun _ h=>ZI (j1 p h) (ZC _ _),fun _ _=>⟨t.2.1,ZA _ _ rfl⟩,(fun h=>by cases h),(fun _ h=>by cases h),fun _=>ZI (K E) (ZC _ _),(fun h=>by cases h)⟩
  .obtain⟨lc,V⟩:=d1 o I f;obtain⟨l2,E⟩:=S J;have d:=j1 J lc;obtain⟨z,s,r1,r2,r3⟩:=hap1 o I g x t d (j2 J V).2;obtain⟨gB,O,rfl⟩:=Z3 r2;have hr:∀r,(Value.slice (g c).a1 n (g c).c1).ownBlock=some r->w.heap.size<=r:=fun r e=>(d.lt r e).1;refine G1 r1 ⟨t.grown (by have:=hw.size;exact this) hv0 r3 (fun r e=>.inl (hr r e)),.inr ⟨{Gh.zero with a1:=gB,c1:=O},by simp[mkR6,s0 n2,s0 n5,n8,s0 o3],?_⟩⟩;rw[dN,ZM n2,ZM n5,ZM (s0 n8),ZM (s0 n9),ZX,upd_ne n2,upd_ne n5,upd_ne (s0 n8),upd_ne (s0 n9),l2,E];refine⟨⟨fun _=>⟨lc,V⟩,(fun h=>by cases h),(fun h=>by cases h)⟩,(fun h=>by cases h),(fun h=>by cases h),fun _=>r2,(fun _ h=>by cases h),fun _=>Z1 (K E) fun r e=>r3.block r ?_ ?_,(fun h=>by cases h)⟩;·exact h8 (R r e) t.2.1
   .intro e';have:=hr r e'.symm;have:=R r e;omega
  .have p:=d2 o I f;have E:=aC J;refine G1 (hal2 o I g x) ⟨t.below (ZC _ _),.inr ⟨{Gh.zero with b:=x.heap.size},by simp[mkR6,s0 n3,s0 n6,s0 o4],?_⟩⟩;rw[dN,ZM n3,ZM n6,ZM n8,ZM (s0 G),ZX,upd_ne n3,upd_ne n6,upd_ne n8,upd_ne (s0 G),p,E];exact⟨⟨fun _=>k1 p,fun _=>rfl,(fun h=>by cases h)⟩,(fun h=>by cases h),(fun h=>by cases h),fun _=>ZI (j3 p) (ZC _ _),fun _ _=>⟨t.2.1,ZA _ _ rfl⟩,fun _=>ZI (K E) (ZC _ _),(fun h=>by cases h)⟩
  .have V:=d3 o I f;have p:=k2 V;obtain⟨z,s,r1,r2,r3,r4⟩:=hap2 o I g x t (K J) (j4 J V).2;obtain⟨gB,O,rfl⟩:=Z3 r2;have d:=j3 p;refine G1 r1 ⟨t.grown hw.size hv0 r3 (fun r e=>.inr e),.inr ⟨{Gh.zero with a1:=gB,c1:=O},by simp[mkR6,s0 n4,s0 n7,s0 n9,s0 G,s0 o5],?_⟩⟩;rw[dN,ZM n4,ZM n7,ZM n9,ZM G,ZX,upd_ne n4,upd_ne n7,upd_ne n9,upd_ne G,p,V];refine⟨⟨fun _=>k1 p,fun _=>rfl,fun _=>rfl⟩,(fun h=>by cases h),(fun h=>by cases h),fun _=>Z1 d fun r e=>r3.block r ?_ ?_,(fun h=>by cases h),(fun h=>by cases h),fun _=>⟨r2,?_⟩⟩;·exact(d.lt r e).2
   .intro e';have:=(d.lt r e).1;have:=R r e'.symm;omega
   .rcases r4 with h|h;·exact .inl h
    .refine .inr ⟨_,h,t.2.1,fun e=>?_⟩;have:=(d.lt _ e.symm).2;omega
 .rintro g x ⟨-,-,-,j3,-,-,N⟩ t aA;exact hend g x t (j3 rfl) (N rfl).1 (N rfl).2
def WI{f:aE} {o:Oper} {x:World} (s y:Operand)(t e:aN)(i:TypeInfo)(z:Value)(d base b c n:Nat) {A:i'} {l:L'} (C:l.length=n)(ho:o.op=.call {callee:=.builtin .append,args:=#[s,y],argTypes:=#[t,t]})(hs:f s=.slice (some b) 0 0)(N:f y=.slice A n c)(ht:P.underlying t=some (.slice e))(g:P.info? e=some i)(hz:i.zero=some z)(p:i.size=1)(I:i.bytes=d)(O:z.cells.size=1)(G:d<=1000)(r:At 1 Zc x A l)(hne:0<l.length)(Z:l.length<=1000)(H:base<=x.heap.size):∃V R,(execOp f o).run P x=.ok (.value V) R/\R.ownsRow base e 1 V n (l.map (Value.int .i64))/\QB x R:=by
 subst C;obtain⟨a,rfl⟩:∃a,A=some a:=by obtain⟨D,Q,h,-⟩:=r 0 _ (h' hne);exact⟨_,h⟩
 have m:∀j u,(l.map (Value.int .i64))[j]?=some u->x.cell? (a.add j)=some u:=fun j u U=>by
  rw[C2]at U;obtain⟨y,N,rfl⟩:=e'.1 U;obtain⟨D,Q,h,-,Y⟩:=r j y N;cases h;have:=Y 0 _ rfl;have e:Addr.add ⟨D,Q,none⟩ j=⟨D,Q+j,none⟩:=by unfold Addr.add;split<;>simp_all
  rw[e];simpa using this
 have X:l.length*d<=1000*1000:=gK Z G;subst I;have K:(l.map (Value.int .i64)).length=l.length*i.size:=by simp[p]
 have S:=run_append_grow (P:=P) (w:=x) t o.type e i z ht g hz ⟨b,0,none⟩ 0 0 [] Qd Qd a l.length c (l.map (Value.int .i64)) K m Qa Qa (growslice_fits Qa (by rw[m'];omega));simp only[m']at S;have L:=grownCap_ge x l.length 0 e;have J:grownCap x l.length 0 e<=maxLen:=grownCap_le_maxLen x l.length 0 e Qq;have E:QB x (x.drew.alloc (.cells (([]:hD).toArray++(l.map (Value.int .i64)).toArray++Builtin.zeroCells z.cells (grownCap x l.length 0 e-l.length)) e)):=((l3 _ x).drew).alloc Qd _;refine⟨_,_,?_,⟨Qd,.inr ⟨x.heap.size,_,_,rfl,H,kF x.drew _,L,J,?_,?_⟩⟩,E⟩;·unfold execOp;simp only[ho,resolve,invoke,builtin,aD,aP,aI,gN,M1,N1,hs,N,S]
 .simp only[Array.size_append,hM,size_zeroCells,O,sA,hG,m',w8];omega
 .simp only[CQ,e9,w8];rw[show l.length=(l.map (Value.int .i64)).length by simp];exact List.take_left
def J7{f:aE} {o:Oper} {x:World} (s y:Operand)(t e:aN)(i:TypeInfo)(I v:Value)(d base n b:Nat)(xs:hD)(u:Value)(tb:aN)(O:o.op=.call {callee:=.builtin .append,args:=#[s,y],argTypes:=#[t,t]})(hs:f s=v)(R:f y=.slice (some b) 1 1)(Q:P.underlying t=some (.slice e))(Z:P.info? e=some i)(hz:i.zero=some I)(p:i.size=1)(G:i.bytes=d)(H:I.cells.size=1)(E:d<=1000)(hown:x.ownsRow base e 1 v n xs)(C:x.heap[b]?=some (.cells #[u] tb))(K:u.oneCell'=true)(D:n+1<=1000)(m:base<=x.heap.size):∃r z,(execOp f o).run P x=.ok (.value r) z/\z.ownsRow base e 1 r (n+1) (xs++[u])/\x.grownBy z v.ownBlock/\(r.ownBlock=v.ownBlock∨r.ownBlock=some x.heap.size):=by
 have L:(n+1)*d<=1000*1000:=gK D E;obtain⟨g,J,z,S,U,V,X,Y⟩:=kU (P:=P) x t o.type base e i I 1 d Q Z hz p G H Qc v n xs hown ⟨b,0,none⟩ 1 1 [u] Qd (fun j r N=>kV C j r (by simpa using N)) (by simpa using K) Qc Qq Qa m _ rfl;refine⟨_,z,?_,U,V,?_⟩;·unfold execOp;simp only[O,resolve,invoke,builtin,aD,aP,aI,gN,M1,N1,hs,R,S]
 .rcases X with h|h;·exact .inl h.symm
  .subst h;exact .inr rfl
def RowsOwn.row6{w0 w x:World} {base n:Nat} {v:Value} {m p:i'} {s f:Nat} {xs:List IR} {l:L'} (h:RowsOwn w base v xs)(hb:base<=w.heap.size)(E:Z4 w0 w v x)(D:x.ownsRow w.heap.size 3 1 (.slice p n f) n (l.map (Value.int .i64)))(Y:0<n)(N:x.ownsRow base 30 1 (.slice m (xs.length+1) s) (xs.length+1) ((xs.map fun x=>Value.slice x.A x.l.length x.c)++[.slice p n f]))(J:(Value.slice m (xs.length+1) s).ownBlock=v.ownBlock∨∃r,(Value.slice m (xs.length+1) s).ownBlock=some r/\w.heap.size<=r/\some r≠(Value.slice p n f).ownBlock):RowsOwn x base (.slice m (xs.length+1) s) (xs++[⟨p,f,l⟩]):=by
 have I:l.length=n:=by have:=D.1;simpa using this
 refine⟨?_,fun y d=>?_⟩;·rw[hK,x0];simpa [I] using N
 .rcases C1.1 d with d|d
  .obtain⟨X,L⟩:=h.row y d;refine⟨fun k z S=>?_,fun a t=>?_⟩;·obtain⟨b,o,K,i,O⟩:=X k z S;obtain⟨C,Z,g⟩:=L _ K;refine⟨b,o,K,h8 i E.2.1,fun j u R=>?_⟩;rw[<-O j u R];exact Q0 (a:=⟨b,o+k*1+j,none⟩) (E.2.2 b i g)
   .obtain⟨C,Z,g⟩:=L a t;refine⟨C,h8 Z E.2.1,?_⟩;rcases J with e|⟨r,e,Q,-⟩;·rw[e];exact g
    .rw[e];intro G;cases G;omega
  .rw[y2]at d;subst d;refine⟨e7 (n:=n) (c:=f) D,fun a t=>?_⟩;dsimp only at t;subst t;obtain⟨U,V⟩:=D.lt a.block rfl;refine⟨h9 hb U,V,?_⟩;rcases J with e|⟨r,e,Q,G⟩;·rw[e];intro H;have:=(h.own.lt _ H.symm).2;omega
   .rw[e];exact fun H=>G H.symm
end
section
variable {P:aA} {n:Nat}
def CZ{l:Nat} {o:Oper} {a:Act} {w:World} {K:eD} {Q:bK} (p:∀c,o.op≠.defer c)(h:o.wp P a w K Q):o.wpIn (Fence.wide.inRound l) n P a w K Q:=by unfold Oper.wpIn;refine⟨fun _ _=>trivial,?_⟩;rw[Oper.semAt_eq _ _ _ p];unfold Oper.wp at h;generalize (execOp a.eval o).run P w=r at*;cases r with
 |ok nx w'=>
  cases nx<;>simp only[Oper.upon]at h<;>simp only[Oper.uponIn];case value u=>exact h
  case skip=>exact h
  case defer d=>exact h
  case enter f args=>exact⟨fun i=>(by cases i),(xC.2 h).inRound l⟩
  case row r args=>refine⟨fun i=>(by cases i),fun c cs _=>?_⟩;obtain⟨v,m,q,s⟩:=h c cs;exact⟨v,m,q,stepsIn_wide.2 s⟩|halt x w'=>cases x<;>simp only[Oper.upon]at h<;>simp only[Oper.uponIn];exact h
def WJ{e:aG} {l i:Nat} {a:Act} {w:World} {K m:eD} {Q:bK} (r:∀o∈e,∀c,o.op≠.defer c)(g:¬LetsOut Q)(p:∀a w,K a w->m a w)(h:wpOp P e Q i K a w):wpOpIn (Fence.wide.inRound l) n P e Q i m a w:=by
 have h:=wpOp_mono p h;unfold wpOp at h;unfold wpOpIn;split;·rename_i d;simpa only[d] using h
 .rename_i o d;simp only[d]at h;split
  .rename_i f;rw[Zde f]at h;rcases h with h|h;·exact CZ (r o (cP d)) h
   .exact absurd h.2 g
  .rename_i f;rw[q' f]at h;exact⟨fun _ _=>trivial,h⟩
def J8{e:aG} {g:Region.Mode} {l:Nat} {Q:bK} (m:∀o∈e,∀c,o.op≠.defer c)(hL:¬LetsOut Q):∀(f:Nat)(d:bM)(a:Act)(w:World),wpAny P g e Q f d a w->wpAnyIn (Fence.wide.inRound l) n P g e Q f d a w|0,_,_,_,h=>h|f+1,_,_,_,h=>⟨h.1,fun i s=>WJ m hL (fun p t r=>J8 m hL f _ p t r) (h.2 i s)⟩
def GP{e:aG} {l:Nat} {Q:bK} (hL:¬LetsOut Q):∀(g:bL)(a:Act)(w:World),g.all (fun o=>match o.op with|.defer _=>false|_=>true)=true->wpList P e Q g a w->wpListIn (Fence.wide.inRound l) n P e Q g a w
 |[],_,_,_,h=>h|o::rest,a,w,hd,h=>by
  simp only[z6,aY]at hd;have d:∀c,o.op≠.defer c:=fun c p=>by rw[p]at hd;cases hd.1
  unfold wpList at h;unfold wpListIn;split
  .rename_i f;rw[Zde f]at h;rcases h with h|h;·exact CZ d (nL (fun i r m=>GP hL rest i r hd.2 m) h)
   .exact absurd h.2 hL
  .rename_i f;rw[q' f]at h;exact⟨fun _ _=>trivial,GP hL rest _ _ hd.2 h⟩
def GK(e w:World)(d f h:Nat)(x:World):Prop:=QB e x/\w.heap.size<=x.heap.size/\∀k,k<w.heap.size->k≠d->k≠f->k≠h->x.heap[k]?=w.heap[k]?
def WK{Q:bK} {a0:Act} {w:World} {l:bL} (e:World)(p q r:Nat)(f i m:Nat)(y4 z4 y5 z5 y6 z6:Obj)(I:Act)(hB:bU l.toArray=true) (hB':bU (mixL [p,q,r] (fun _ _=>undef) (fun _=>Gh.zero) 0 l).toArray=true) (hS:Region.noSelect l.toArray=true) (hN:spB l.toArray [p,q,r]=true) (hne:p≠q/\p≠r/\q≠r)(hkd:(match l[p]?,l[q]?,l[r]? with|some o,some o',some o''=>o.dst.isNone&&o'.dst.isNone&&o''.dst.isNone|_,_,_=>false)=true)(hw:QB e w)(hb:e.heap.size<=f/\e.heap.size<=i/\e.heap.size<=m)(hbn:f≠i/\f≠m/\i≠m)(h4:w.heap[f]?=some y4)(h5:w.heap[i]?=some y5)(h6:w.heap[m]?=some y6)(hs4:∀o,l[p]?=some o->∀x,GK e w f i m x->x.heap[f]?=some y4->∃d,(execOp I.eval o).run P x=.ok .skip d/\OnlyB f x d/\d.heap[f]?=some z4)(hs5:∀o,l[q]?=some o->∀x,GK e w f i m x->x.heap[i]?=some y5->∃d,(execOp I.eval o).run P x=.ok .skip d/\OnlyB i x d/\d.heap[i]?=some z5)(hs6:∀o,l[r]?=some o->∀x,GK e w f i m x->x.heap[m]?=some y6->∃d,(execOp I.eval o).run P x=.ok .skip d/\OnlyB m x d/\d.heap[m]?=some z6)(hq:∀u,GK e w f i m u->(∀(x:Grew u)(b o:Nat),b<u.heap.size->x.val.cell? ⟨b,o,none⟩=u.cell? ⟨b,o,none⟩)->wpQuiet P (mixL [p,q,r] (fun _ _=>undef) (fun _=>Gh.zero) 0 l).toArray (fun w'=>∃x:Grew u,w'=x.val) (fun a'=>a'=I) (mixL [p,q,r] (fun _ _=>undef) (fun _=>Gh.zero) 0 l) a0)(C:∀x,GK e w f i m x->x.heap[f]?=some z4->x.heap[i]?=some z5->x.heap[m]?=some z6->Q .normal I x):wpAny P .any l.toArray Q l.toArray.size (Array.replicate l.toArray.size false) a0 {w with drawn:=w.drawn+1}:=by
 obtain⟨n1,n2,n3⟩:=hne;obtain⟨e1,e2,e3⟩:=hbn;have O:∀j∈[p,q,r],∀o,l[j]?=some o->o.dst=none:=by cases K:l[p]? with|none=>rw[K]at hkd;simp at hkd|some o1=>cases V:l[q]? with|none=>rw[K,V]at hkd;simp at hkd|some o2=>cases Z:l[r]? with
    |none=>rw[K,V,Z]at hkd;simp at hkd|some o3=>
     rw[K,V,Z]at hkd;simp only[aY,CR]at hkd;intro j J o t;simp only[ZBq,ZBH,ZyH]at J;rcases J with rfl|rfl|rfl;·rw[K]at t;cases t;exact hkd.1.1
     .rw[V]at t;cases t;exact hkd.1.2
     .rw[Z]at t;cases t;exact hkd.2
 have H:∀{x d:World} {b:Nat},GK e w f i m x->OnlyB b x d->(b=f∨b=i∨b=m)->GK e w f i m d:=fun {x d b} h t N=>⟨h.1.trans (t.below _ (by rcases N with rfl|rfl|rfl;exact hb.1;exact hb.2.1;exact hb.2.2)),h9 h.2.1 (t.below 0 (k2 _)).size,fun k Y y z D=>(t.other k (by rcases N with rfl|rfl|rfl<;>assumption)).trans (h.2.2 k Y y z D)⟩;have aC:∀{x d:World},GK e w f i m x->QB x d->GK e w f i m d:=fun {x d} h s=>⟨via h.1 s,h9 h.2.1 s.size,fun k Y y z D=>(s.block k (h8 Y h.2.1)).trans (h.2.2 k Y y z D)⟩;have R:∀g g',mixL [p,q,r] (fun _ _=>undef) g 0 l=mixL [p,q,r] (fun _ _=>undef) g' 0 l:=fun g g'=>by apply aX;intro j;have y:=S8 [p,q,r] (fun _ _=>undef) g l 0 j;have z:=S8 [p,q,r] (fun _ _=>undef) g' l 0 j;rw[y,z]
 refine dM e (GK e w f i m) [p,q,r] (fun _ _=>undef) (fun L g x=>x.heap[f]?=some (if L p then z4 else y4)/\x.heap[i]?=some (if L q then z5 else y5)/\x.heap[m]?=some (if L r then z6 else y6)) (fun _=>I) hB (fun g=>by rw[R g (fun _=>Gh.zero)];exact hB') hS hN
  ⟨hw,sW _,fun _ _ _ _ _=>rfl⟩ (fun x d h hb=>aC h hb) (fun x h=>h.1) ?_ ?_ (fun g u hu aB _ _=>by rw[R g (fun _=>Gh.zero)];exact hq u hu aB) (fun _ _ _ _=>rfl) ?_ ?_;·intro L h;rw[h p Qd,h q Qd,h r Qd];exact⟨h4,h5,h6⟩
 .rintro L L' g x d h ⟨y,z,D⟩ s;rw[h p Qd,h q Qd,h r Qd];exact⟨Zx s y,Zx s z,Zx s D⟩
 .intro j J o t L g x ⟨y,z,D⟩ G aA hL X aD;have hd:=O j J o t;simp only[ZBq,ZBH,ZyH]at J;rcases J with rfl|rfl|rfl;·rw[hL]at y;obtain⟨d,S,E,U⟩:=hs4 o t x G y;refine fU S ⟨H G E (.inl rfl),.inl ⟨hd,?_⟩⟩;rw[dN,ZM (s0 n1),ZM (s0 n2)];exact⟨U,E.keep (s0 e1) z,E.keep (s0 e2) D⟩
  .rw[hL]at z;obtain⟨d,S,E,U⟩:=hs5 o t x G z;refine fU S ⟨H G E (.inr (.inl rfl)),.inl ⟨hd,?_⟩⟩;rw[dN,ZM n1,ZM (s0 n3)];exact⟨E.keep e1 y,U,E.keep (s0 e3) D⟩
  .rw[hL]at D;obtain⟨d,S,E,U⟩:=hs6 o t x G D;refine fU S ⟨H G E (.inr (.inr rfl)),.inl ⟨hd,?_⟩⟩;rw[dN,ZM n2,ZM n3];exact⟨E.keep e2 y,E.keep e3 z,U⟩
 .rintro g x ⟨y,z,D⟩ G aA;simp only[ZyJ]at y z D;exact C x G y z D
end
section
variable {P:aA}
def iE(o:Oper):List Nat:=(o.after.toList.filter (Region.binds .any)).map (·.on)
def C5(l:bL)(S:y0):List Nat:=S.foldl (fun d i=>match l[i]? with|some o=>(iE o).foldl (fun a e=>if a.contains e then a else a++[e]) d|none=>d) S
def jV(l:bL):Nat->List Nat->List Nat|0,S=>S|n+1,S=>jV l n (C5 l S)
abbrev _root_.iR:=Nat->List Nat
def G0(l:bL)(e:y0)(d:iR):Bool:=e.all fun j=>match l[j]? with|some o=>(d j).all fun i=>(jV l l.length (iE o)).contains i|none=>false
def kY{o:Oper} {L:bR} (h:∀e∈o.after,Region.binds .any e=true->L e.on=true):∀i∈iE o,L i=true:=by intro i p;obtain⟨e,m,rfl⟩:=b3.1 p;obtain⟨d,f⟩:=eC.1 m;exact h e (by simpa using d) f
def WL{l:bL} {L:bR} (y:∀(i:Nat)(o:Oper),l[i]?=some o->L i=true->∀e∈o.after,Region.binds .any e=true->L e.on=true) {S:y0} (g:∀i∈S,L i=true):∀i∈C5 l S,L i=true:=by
 have p:∀(es d:y0),(∀i∈d,L i=true)->(∀i∈es,L i=true)->∀i∈es.foldl (fun a e=>if a.contains e then a else a++[e]) d,L i=true:=by intro es;induction es with|nil=>intro d h _ i m;exact h i m|cons e es ih=>
   intro d h s i m;refine ih _ (fun j f=>?_) (fun j f=>s j (by simp[f])) i m;dsimp only at f;split at f;·exact h j f
   .rcases C1.1 f with f|f;·exact h j f
    .rw[y2]at f;subst f;exact s _ Qd
 have r:∀(T d:y0),(∀i∈T,L i=true)->(∀i∈d,L i=true)->∀i∈T.foldl (fun d i=>match l[i]? with|some o=>(iE o).foldl (fun a e=>if a.contains e then a else a++[e]) d|none=>d) d,L i=true:=by intro T;induction T with
  |nil=>intro d _ h i m;exact h i m|cons t T ih=>
   intro d u h i m;refine ih _ (fun j f=>u j (by simp[f])) (fun j f=>?_) i m;dsimp only at f;split at f;·rename_i o z;exact p _ _ h (kY (y t o z (u t Qd))) j f
   .exact h j f
 exact r S S g g
def oY{l:bL} {L:bR} (d:∀(i:Nat)(o:Oper),l[i]?=some o->L i=true->∀e∈o.after,Region.binds .any e=true->L e.on=true):∀(n:Nat) {S:y0},(∀i∈S,L i=true)->∀i∈jV l n S,L i=true|0,_,hS=>hS|n+1,_,hS=>oY d n (WL d hS)
def jW{l:bL} {g:y0} {d:iR} (h:G0 l g d=true) {L:bR} (p:∀(i:Nat)(o:Oper),l[i]?=some o->L i=true->∀e∈o.after,Region.binds .any e=true->L e.on=true) {j:Nat} (s:j∈g) {o:Oper} (t:l[j]?=some o)(u:∀e∈o.after,Region.binds .any e=true->L e.on=true):∀i∈d j,L i=true:=by have f:=bP.1 h j s;rw[t]at f;intro i r;have m:=bP.1 f i r;exact oY p _ (kY u) i (by simpa using m)
def C7(d:aG):Bool:=(List.range d.size).all fun i=>match d[i]? with|some o=>o.after.all fun e=>!Region.binds .any e||decide (e.on<i)|none=>true
def WM{g:aG} (h:C7 g=true)(i:Nat)(o:Oper)(e:Edge)(m:g[i]?=some o)(p:e∈o.after)(r:Region.binds .any e=true):e.on<i:=by have d:=bP.1 h i (w5.2 (D6 m));rw[m]at d;have f:=oV.1 d e p;rw[r]at f;simpa using f
def J9{g:aG} (H:∀(i:Nat)(o:Oper)(e:Edge),g[i]?=some o->e∈o.after->Region.binds .any e=true->e.on<i) {d:bM} (y:d.size=g.size)(h:Region.ready .any g d=[]):∀j,j<g.size->d.getD j true=true:=by intro j;induction j using Nat.strongRecOn with|_ j ih=>intro m;cases u:d.getD j true with
  |true=>rfl|false=>exfalso;have:j∈Region.ready .any g d:=fF.2 ⟨u,g[j],e3 m,fun e t s=>by
    have p:=H j _ e (e3 m) t s;have f:=ih e.on p Qa;have r:e.on<d.size:=Qa
    simp[r]at f |-;exact f⟩;rw[h]at this;cases this
def v8 {Q : Exit -> Act -> World -> Prop} {a0 : Act} {w : World} {l : List Oper} (n : Nat) (O : Oper) (hn : l.length = n + 1) (hz : l[n]? = some O)
    (hB : C7 (l.take n).toArray = true) (hG : l.all (fun o => o.guard.isNone) = true) (hA : (List.range n).all (fun i => (jV l l.length (iE O)).contains i) = true) (hE : O.after.all (fun e => !Region.binds .any e || decide (e.on < n)) = true)
    (h : wpAny P .any (l.take n).toArray (fun e a x => match e with | .normal => O.wp P a x (fun a' E => Q .normal a' E) Q | e => Q e a x) (l.take n).toArray.size (Array.replicate (l.take n).toArray.size false) a0 { w with drawn := w.drawn + 1 }) :
    wpAny P .any l.toArray Q l.toArray.size (Array.replicate l.toArray.size false) a0 { w with drawn := w.drawn + 1 } := by
  have H := WM hB
  have bA : (l.take n).length = n := Qo
  have aJ : ∀ (i : Nat) (o : Oper), l[i]? = some o -> o.guard = none := fun i o u => by
    have := bP.1 hG o (k3 u)
    simpa using this
  have G : ∀ i, i < n -> (l.take n).toArray[i]? = l.toArray[i]? := fun i D => by simp [jT D]
  have Z : ∀ i, n <= i -> (l.take n).toArray[i]? = none := fun i D => by simp [cN (show (l.take n).length <= i by omega)]
  have p : ∀ (m : Array Bool) (b d : Bool) (i : Nat), m.size = n -> i < n -> (m.push b).getD i d = m.getD i d := fun m b d i s D => by
    rw [fG, fG, dP Qa]
    simp [e3 (show i < m.size by omega)]
  have X : ∀ (m : Array Bool) (b d : Bool), m.size = n -> (m.push b).getD n d = b := fun m b d s => by
    rw [fG, <- s]
    simp
  have aQ : ∀ (m : Array Bool) (b : Bool) (i : Nat), m.size = n -> i < n -> (i ∈ Region.ready .any l.toArray (m.push b) ↔ i ∈ Region.ready .any (l.take n).toArray m) := fun m b i s D => by
    rw [fF, fF, p _ _ _ _ s D, G i D]
    constructor
    . rintro ⟨I, o, u, h2⟩
      refine ⟨I, o, u, fun e z N => ?_⟩
      have := H i o e ((G i D).trans u) z N
      rw [<- p m b false e.on s Qa]
      exact h2 e z N
    . rintro ⟨I, o, u, h2⟩
      refine ⟨I, o, u, fun e z N => ?_⟩
      have := H i o e ((G i D).trans u) z N
      rw [p m b false e.on s Qa]
      exact h2 e z N
  let Cl : Array Bool -> Prop := fun m => ∀ (i : Nat) (o : Oper), l[i]? = some o -> i < n -> m.getD i true = true -> ∀ e ∈ o.after, Region.binds .any e = true -> m.getD e.on true = true
  have aR : ∀ (f : Nat) (m : Array Bool) (a : Act) (x : World), m.size = n -> Cl m -> wpAny P .any (l.take n).toArray (fun e a x => match e with | .normal => O.wp P a x (fun a' E => Q .normal a' E) Q | e => Q e a x) f m a x -> wpAny P .any l.toArray Q (f + 1) (m.push false) a x := by
    have aG : ∀ (f : Nat) (m : Array Bool) (a : Act) (x : World), m.size = n -> (∀ i, i < n -> m.getD i true = true) -> O.wp P a x (fun a' E => Q .normal a' E) Q -> wpAny P .any l.toArray Q (f + 1) (m.push false) a x := by
      intro f m a x s hu hw
      have aO : n ∈ Region.ready .any l.toArray (m.push false) := by
        rw [fF]
        refine ⟨X _ _ _ s, O, by simpa using hz, fun e z N => ?_⟩
        have I := oV.1 hE e z
        rw [N] at I
        simp only [oD, p', h6] at I
        rw [p _ _ _ _ s I]
        have := hu e.on I
        rw [fG, e3 Qa] at this |-
        exact this
      refine ⟨fun h0 => (by rw [h0] at aO; cases aO), fun i D => ?_⟩
      have t : i = n := by
        obtain ⟨I, o, u, -⟩ := fF.1 D
        have aL : i < l.length := by simpa using D6 u
        rcases D4 i n with h | h
        . rw [p _ _ _ _ s h, hu i h] at I
          cases I
        . omega
      subst t
      have V : (m.push false).setIfInBounds i true = m.push true := by
        apply dD
        intro j
        rw [bF, eS, eS]
        simp only [uT, s]
        by_cases h : i = j
        . subst h; simp [s]
        . simp [h, s, s0 h]
      have aT : wpAny P .any l.toArray Q f (m.push true) = fun a' E => wpAny P .any l.toArray Q f (m.push true) a' E := rfl
      have K : Region.ready .any l.toArray (m.push true) = [] := by
        rw [rM]
        intro j Y
        obtain ⟨I, o, u, -⟩ := fF.1 Y
        have aL : j < l.length := by simpa using D6 u
        rcases D4 j i with h | h
        . rw [p _ _ _ _ s h, hu j h] at I
          cases I
        . have : j = i := Qa
          subst this
          rw [X _ _ _ s] at I
          cases I
      have hK : ∀ a' E, Q .normal a' E -> wpAny P .any l.toArray Q f (m.push true) a' E := fun a' E h => by
        cases f with
        | zero => exact ⟨K, h⟩
        | succ f => exact ⟨fun _ => h, fun j Y => by rw [K] at Y; cases Y⟩
      unfold wpOp
      have aX : l.toArray[i]? = some O := by simpa using hz
      simp only [aX]
      have aW : Region.wanted O (yielded l.toArray a.tmps) = true := by unfold Region.wanted; rw [aJ i O hz]
      rw [Zde aW, V]
      exact .inl (nL hK hw)
    intro f
    induction f with
    | zero =>
      rintro m a x s aC ⟨hr, hq⟩
      exact aG 0 m a x s (fun i D => J9 H (by simp [s]; omega) hr i Qo) hq
    | succ f ih =>
      rintro m a x s aC ⟨hr, hq⟩
      by_cases K : Region.ready .any (l.take n).toArray m = []
      . exact aG (f + 1) m a x s (fun i D => J9 H (by simp [s]; omega) K i Qo) (hr K)
      . have aU : ∀ i, i ∈ Region.ready .any l.toArray (m.push false) -> i < n := by
          intro i D
          obtain ⟨I, o, u, h2⟩ := fF.1 D
          have aL : i < l.length := by simpa using D6 u
          rcases D4 i n with h | h
          . exact h
          . have t : i = n := Qa
            subst t
            exfalso
            obtain ⟨j, Y⟩ := uU _ K
            obtain ⟨h3, o3, S, -⟩ := fF.1 Y
            have aE : j < i := by
              rcases D4 j i with h | h
              . exact h
              . rw [Z j h] at S; cases S
            have aY : o = O := by
              rw [show l.toArray[i]? = l[i]? by simp, hz] at u
              exact (R' u).symm
            subst aY
            have h4 := bP.1 hA j (w5.2 aE)
            have U : ∀ e ∈ o.after, Region.binds .any e = true -> m.getD e.on true = true := fun e z N => by
              have g := h2 e z N
              have aA := oV.1 hE e z
              rw [N] at aA
              simp only [oD, p', h6] at aA
              rw [p _ _ _ _ s aA] at g
              exact nH g
            have g := oY (l := l) (L := fun k => m.getD k true) (fun k o' J C e z N => by
              rcases D4 k i with hk | hk
              . exact aC k o' J hk C e z N
              . have bB : k < l.length := (p1.1 J).1
                obtain rfl : k = i := Qa
                rw [hz] at J
                obtain rfl : o = o' := R' J
                exact U e z N) l.length (kY U) j (by simpa using h4)
            rw [fG, e3 Qa] at h3 g
            simp only [M0] at h3 g
            rw [h3] at g
            cases g
        refine ⟨fun h0 => ?_, fun i D => ?_⟩
        . exfalso
          obtain ⟨j, Y⟩ := uU _ K
          have aE : j < n := by
            obtain ⟨h3, o3, S, -⟩ := fF.1 Y
            rcases D4 j n with h | h
            . exact h
            . rw [Z j h] at S; cases S
          have := (aQ m false j s aE).2 Y
          rw [h0] at this
          cases this
        . have t := aU i D
          have aD := (aQ m false i s t).1 D
          have R := hq i aD
          obtain ⟨-, o, u, -⟩ := fF.1 aD
          have aN : l.toArray[i]? = some o := (G i t).symm.trans u
          have hg := aJ i o (by simpa using aN)
          unfold wpOp at R |-
          simp only [u] at R
          simp only [aN]
          have aP : ∀ y, Region.wanted o y = true := fun y => by unfold Region.wanted; rw [hg]
          rw [Zde (aP _)] at R
          rw [Zde (aP _)]
          have V : (m.push false).setIfInBounds i true = (m.setIfInBounds i true).push false := by
            apply dD
            intro j
            rw [bF, eS, eS, bF]
            simp only [uT, rN, s]
            by_cases h : i = j
            . subst h; simp [s, t, Nat.lt_succ_of_lt t, Nat.ne_of_lt t]
            . simp [h]
          rw [V]
          have aI : Cl (m.setIfInBounds i true) := by
            intro i' o' J aS C e z aH
            have aZ : m.getD e.on true = true := by
              by_cases aK : i = i'
              . subst aK
                obtain ⟨-, o2, aM, aB⟩ := fF.1 aD
                rw [G i t] at aM
                have e2 : l[i]? = some o2 := by simpa using aM
                rw [J] at e2
                obtain rfl : o' = o2 := R' e2
                exact nH (aB e z aH)
              . rw [R0 true aK] at C
                exact aC i' o' J aS C e z aH
            by_cases U : i = e.on
            . rw [U, rI]
            . rw [R0 true U]; exact aZ
          have aF : ∀ a' E, wpAny P .any (l.take n).toArray (fun e a x => match e with | .normal => O.wp P a x (fun a' E => Q .normal a' E) Q | e => Q e a x) f (m.setIfInBounds i true) a' E -> wpAny P .any l.toArray Q (f + 1) ((m.setIfInBounds i true).push false) a' E := fun a' E h => ih _ a' E (by simp [s]) aI h
          rcases R with R | ⟨R, h7⟩
          . left
            refine nL aF ?_
            unfold Oper.wp at R |-
            generalize (execOp a.eval o).run P x = r at *
            cases r with
            | ok nx w' =>
              cases nx with
              | enter f' args => exact (show Calls P f' args w' _ from R).mono fun e bC z => by cases e <;> exact z
              | _ => exact R
            | halt v w' => cases v <;> exact R
          . right
            exact ⟨R, h7⟩
  have aV : (Array.replicate (l.take n).toArray.size false).push false = Array.replicate l.toArray.size false := by
    rw [<- kX]
    congr 1
    simp
    omega
  have := aR _ _ _ _ Qo (fun i o u D C => by
    rw [fG, e3 Qo] at C
    simp at C) h
  rw [aV] at this
  have e : (l.take n).toArray.size + 1 = l.toArray.size := Qo
  rwa [e] at this
def R3{K:eD} {Q:bK} {o:Oper} {a:Act} {w:World} (v:Value)(h:(execOp a.eval o).run P w=.ok (.value v) w)(d:K (a.put o.dst v) w):o.wp P a w K Q:=by unfold Oper.wp;rw[h];exact d
def C'{K:eD} {Q:bK} {o:Oper} {a:Act} {w:World} (p q:Operand)(t:aN)(s:o.op=.store t p q)(b:Nat)(e cs:hD)(T:aN)(C:a.eval p=.pointer (some b))(hq:a.eval q=.agg e.toArray)(d:(sizeOf t).run P w=.ok e.length w)(g:w.heap[b]?=some (.cells cs.toArray T))(r:cs.length=e.length)(m:∀u∈e,u.oneCell'=true)(h:∀w',w'.heap[b]?=some (.cells e.toArray T)->w.grownBy w' (some b)->w'.heap.size=w.heap.size->K (a.put o.dst undef) w'):o.wp P a w K Q:=by
 obtain⟨f,y,z,D,E⟩:=oT (P:=P) b T e 0 cs w g Qa m;unfold Oper.wp execOp;have i:(storeVar t ⟨b,0,none⟩ (.agg e.toArray)).run P w=.ok () f:=by unfold storeVar;simp only[aD,d,aI,Value.cells,hM,ne_eq,jK,ZyI];exact y
 simp only[s,Instr.storeAt,Instr.sureAddr,C,hq,aD,aP,aI,i];refine h f ?_ D E;rw[z];congr 2;apply w6;simp[r]
end
section
variable {P:aA}
def kZ{K i:hS} {r:Result Next} (h:cE P K r)(d:∀v x,K v x->i v x):cE P i r:=by cases r with
 |ok n x=>
  cases n<;>simp only[cE]at h |-;case value v=>exact d _ _ h
  case skip=>exact d _ _ h
  case enter f args=>exact h.mono fun e p ⟨v,m,o⟩=>⟨v,m,d _ _ o⟩|halt hh x=>exact h
def GI(d:y0)(f:c6)(L:bR)(j:Nat):Bool:=d.any fun k=>f k==j&&L k
def u'{Q:bK} {a0:Act} {w:World} {l:bL} (w0:World)(C:cC)(r m:y0)(y:c6)(N:iR)(mk:eR)(R:Nat->Bool->(Nat->Gh)->World->Prop)(Own:Nat->Gh->Nat->Prop)(af:(Nat->Gh)->Act)(hB:bU l.toArray=true)(hB':∀g,bU (mixL (r++m) mk g 0 l).toArray=true)(hS:Region.noSelect l.toArray=true)(hN:spB l.toArray (r++m)=true)(hnd:(r++m).Nodup)(htg:∀k∈m,y k∈r/\y k∈N k)(hinj:∀k∈m,∀k'∈m,y k=y k'->k=k')(hD:G0 l (r++m) N=true)(hkd:m.all (fun k=>match l[k]? with|some o=>o.dst.isNone|none=>false)=true)(hC0:C w)(hCs:∀x D,C x->QB x D->C D)(hCw:∀x,C x->QB w0 x)(hCz:∀x,C x->w.heap.size<=x.heap.size)(hCo:∀x D b,C x->OnlyB b x D->w.heap.size<=b->C D)(hRb:∀j f g x D,R j f g x->QB x D->R j f g D)(hRg:∀i f g j h x,j≠i->j∉N i->(f=true->∀k∈m,y k=i->j∉N k)->R i f g x->R i f (upd g j h) x)(hRo:∀i f g b x D,C x->R i f g x->OnlyB b x D->w.heap.size<=b->¬Own i (g i) b->R i f g D)(hmake:∀j∈r,∀o,l[j]?=some o->∀(g:bT)(x:World),C x->(∀i∈N j,i∈r->∃f,R i f g x/\∀b,Own i (g i) b->w.heap.size<=b/\b<x.heap.size)->cE P (fun v D=>∃h,v=mk j h/\R j false (upd g j h) D/\QB x D/\∀b,Own j h b->x.heap.size<=b/\b<D.heap.size) ((execOp (af g).eval o).run P x))(hstore:∀k∈m,∀o,l[k]?=some o->∀(g:bT)(x:World),C x->R (y k) false g x->(∀i∈N k,i∈r->i≠y k->∃f,R i f g x)->∃D b,(execOp (af g).eval o).run P x=.ok .skip D/\Own (y k) (g (y k)) b/\OnlyB b x D/\R (y k) true g D)(hq:∀g u,C u->(∀(x:Grew u)(b o:Nat),b<u.heap.size->x.val.cell? ⟨b,o,none⟩=u.cell? ⟨b,o,none⟩)->Hid (∀x:Grew u,QB w0 x.val)->Hid (∀x:Grew u,C x.val)->wpQuiet P (mixL (r++m) mk g 0 l).toArray (fun w'=>∃x:Grew u,w'=x.val) (fun a'=>a'=af g) (mixL (r++m) mk g 0 l) a0)(hind:∀j∈r++m,∀g h,cD (cF l.toArray j 0 l []) 0 (af g).tmps.toList=cD (cF l.toArray j 0 l []) 0 (af (upd g j h)).tmps.toList)(hend:∀(g:bT)(x:World),C x->(∀j∈r,R j (m.any fun k=>y k==j) g x/\(∀b,Own j (g j) b->w.heap.size<=b/\b<x.heap.size)/\∀i∈r,i≠j->∀b,Own j (g j) b->¬Own i (g i) b)->Q .normal (af g) x):wpAny P .any l.toArray Q l.toArray.size (Array.replicate l.toArray.size false) a0 {w with drawn:=w.drawn+1}:=by
 have aN:∀k∈m,∀o,l[k]?=some o->o.dst=none:=fun k hk o ho=>by have:=bP.1 hkd k hk;rw[ho]at this;simpa using this
 have aC:∀j∈r,j∉m:=fun j X J=>by obtain⟨-,-,h⟩:=List.nodup_append.1 hnd;exact h j X j J rfl
 have aK:∀(L:bR)(j k:Nat),j∈r->GI m y (cV L j) k=GI m y L k:=fun L j k X=>by
  unfold GI;rw[eN,h0,h0];constructor;·rintro⟨s,J,h⟩;have:s≠j:=fun e=>aC j X (e▸J);rw[ZM this]at h;exact⟨s,J,h⟩
  .rintro⟨s,J,h⟩;have:s≠j:=fun e=>aC j X (e▸J);exact⟨s,J,by rw[ZM this];exact h⟩
 refine dM w0 C (r++m) mk (fun L g x=>∀j∈r,L j=true->R j (GI m y L j) g x/\(∀b,Own j (g j) b->w.heap.size<=b/\b<x.heap.size)/\∀i∈r,i≠j->L i=true->∀b,Own j (g j) b->¬Own i (g i) b) af hB hB' hS hN hC0 hCs hCw ?_ ?_ hq hind ?_ ?_;·intro L h j X hL;rw[h j (uC _ X)]at hL;cases hL
 .intro L L' g x D h hJ hb j X hL;have hf:GI m y L' j=GI m y L j:=by
   unfold GI;rw[eN,h0,h0];constructor;·rintro⟨s,J,K⟩;rw[h s (G9 _ J)]at K;exact⟨s,J,K⟩
   .rintro⟨s,J,K⟩;exact⟨s,J,by rw[h s (G9 _ J)];exact K⟩
  rw[h j (uC _ X)]at hL;obtain⟨U,V,h3⟩:=hJ j X hL;rw[hf];exact⟨hRb _ _ _ _ _ U hb,fun b p=>⟨(V b p).1,h8 (V b p).2 hb.size⟩,fun i H z E=>h3 i H z (by rw[<-h i (uC _ H)];exact E)⟩
 .intro j X o ho L g x hJ hC aR hL aD aA;have aH:=jW hD aA X ho aD;have aG:∀i∈r++m,L i=true->∀d∈N i,L d=true:=fun i H E d hd=>by
   have:∃o,l[i]?=some o:=by have U:=bP.1 hD i H;cases V:l[i]? with
    |none=>rw[V]at U;cases U|some o=>exact⟨o,rfl⟩
   obtain⟨o',aE⟩:=this;exact jW hD aA H aE (aA i o' aE E) d hd
  rcases C1.1 X with aO|I
  .have aV:=hmake j aO o ho g x hC fun i H S=>by obtain⟨U,V,-⟩:=hJ i S (aH i H);exact⟨_,U,V⟩
   refine kZ aV ?_;rintro v D ⟨h,rfl,hR,hb,hO⟩;refine⟨hCs _ _ hC hb,.inr ⟨h,rfl,fun i H E=>?_⟩⟩;rw[aK L j i aO];by_cases O:i=j
   .subst O;have aI:GI m y L i=false:=by unfold GI;rw[bY];intro k hk Y;simp only[aY,cZ]at Y;have:=aG k (G9 _ hk) Y.2 (y k) (htg k hk).2;rw[Y.1,hL]at this;cases this
    rw[aI];refine⟨hR,fun b p=>?_,fun Z G z t b p=>?_⟩;·rw[ZX]at p;have:=hO b p;exact⟨h9 (hCz x hC) this.1,this.2⟩
    .rw[ZX]at p;rw[upd_ne z];intro aF;rw[ZM z]at t;have U:=(hO b p).1;have V:=((hJ Z G t).2.1 b aF).2;omega
   .rw[ZM O]at E;obtain⟨U,V,h3⟩:=hJ i H E;refine⟨hRg i _ g j h D (s0 O) (fun hd=>?_) (fun hf k hk aU hd=>?_) (hRb _ _ _ _ _ U hb),fun b p=>?_,fun Z G z t b p=>?_⟩;·have:=aG i (uC _ H) E j hd;rw[hL]at this;cases this
    .have aS:L k=true:=by unfold GI at hf;obtain⟨k',aT,Y⟩:=h0.1 hf;simp only[aY,cZ]at Y;have:=hinj k' aT k hk (Y.1.trans aU.symm);rw[<-this];exact Y.2
     have:=aG k (G9 _ hk) aS j hd;rw[hL]at this;cases this
    .rw[upd_ne O]at p;have:=V b p;exact⟨this.1,h8 this.2 hb.size⟩
    .rw[upd_ne O]at p;by_cases aB:Z=j;·subst aB;rw[ZX];intro aF;have U:=(hO b aF).1;have aX:=(V b p).2;omega
     .rw[upd_ne aB];rw[ZM aB]at t;exact h3 Z G z t b p
  .obtain⟨aQ,aW⟩:=htg j I;have aL:=aH _ aW;obtain⟨m1,m2,m3⟩:=hJ _ aQ aL;have aI:GI m y L (y j)=false:=by unfold GI;rw[bY];intro k hk Y;simp only[aY,cZ]at Y;have:=hinj k hk j I Y.1;rw[this,hL]at Y;cases Y.2
   rw[aI]at m1;obtain⟨D,b,r1,r2,r3,r4⟩:=hstore j I o ho g x hC m1 fun i H S z=>⟨_,(hJ i S (aH i H)).1⟩;have aM:=m2 b r2;have aP:=(r3.below 0 (k2 _)).size;refine fU r1 ⟨hCo _ _ _ hC r3 aM.1,.inl ⟨aN j I o ho,fun i H E=>?_⟩⟩;have O:i≠j:=fun e=>aC i H (e▸I);rw[ZM O]at E;by_cases S:i=y j
   .subst S;have aJ:GI m y (cV L j) (y j)=true:=by unfold GI;rw[h0];exact⟨j,I,by rw[dN];simp⟩
    rw[aJ];refine⟨r4,fun b' p=>?_,fun Z G z t=>?_⟩;·have:=m2 b' p;exact⟨this.1,h8 this.2 aP⟩
    .rw[ZM (show Z≠j from fun e=>aC Z G (e▸I))]at t;exact m3 Z G z t
   .have aJ:GI m y (cV L j) i=GI m y L i:=by
     unfold GI;rw[eN,h0,h0];constructor;·rintro⟨s,J,K⟩;simp only[aY,cZ]at K;have:s≠j:=fun e=>S (by rw[<-K.1,e]);rw[ZM this]at K;exact⟨s,J,by simp[K.1,K.2]⟩
     .rintro⟨s,J,K⟩;simp only[aY,cZ]at K;have:s≠j:=fun e=>by rw[e,hL]at K;cases K.2
      exact⟨s,J,by rw[ZM this];simp[K.1,K.2]⟩
    rw[aJ];obtain⟨U,V,h3⟩:=hJ i H E;refine⟨hRo _ _ _ b _ _ hC U r3 aM.1 (fun aE=>h3 (y j) aQ (s0 S) aL b aE r2),fun b' p=>?_,fun Z G z t=>?_⟩;·have:=V b' p;exact⟨this.1,h8 this.2 aP⟩
    .rw[ZM (show Z≠j from fun e=>aC Z G (e▸I))]at t;exact h3 Z G z t
 .intro g x hJ hC aR;refine hend g x hC fun j X=>?_;obtain⟨U,V,h3⟩:=hJ j X rfl;refine⟨?_,V,fun i H z=>h3 i H z rfl⟩;have:GI m y (fun _=>true) j=m.any fun k=>y k==j:=by simp[GI]
  rw[<-this];exact U
end
end Go.Proofs
namespace Go.Proofs
def xG:∀(n:Nat)(l:L'),l.length<=n->dotL (List.replicate n 1) l=l.sum|n,[],_=>by cases n<;>simp[List.replicate,dotL]|0,_::_,h=>by simp at h|n+1,x::l,h=>by simp only[E9,dotL,aS];rw[xG n l (by simpa using h)];omega
def lA(n i k:Nat)(b:k<n):(hH n i).getD k 0=if k=i then 1 else 0:=by simp[hH,D1,dF b]
def WN(m:L')(i:Nat):wsum m (fun k=>if k=i then 1 else 0)=m.getD i 0:=by induction m generalizing i with
 |nil=>simp[wsum]|cons x m ih=>cases i with
  |zero=>
   have:wsum m (fun k=>if k+1=0 then (1:Int)else 0)=0:=by rw[show (fun k:Nat=>if k+1=0 then (1:Int)else 0)=fun _=>0 by funext k;simp];exact wL m
   simp only[wsum,this];simp|succ i=>have:=ih i;simp only[wsum];rw[show (fun k:Nat=>if k+1=i+1 then (1:Int)else 0)=fun k=>if k=i then 1 else 0 by funext k;simp];rw[this];simp
def DC{n i:Nat} {l:L'} (h:l.length<=n):dotL (hH n i) l=l.getD i 0:=by rw[jP _ _ (by simp[hH];exact h),<-WN l i];apply BQ;intro k x d _;exact lA n i k (h8 (p1.1 d).1 h)
structure MixOf (np:Nat)(es:aF)(z t:y0)(m:L')(d:Int):Prop where
 len:m.length=np
 den:0<d
 nn:∀x∈m,0<=x
 sum:m.sum=d
 zero:∀i∈z,m.getD i 0=0
 per:∀x∈es,dotL x.1 m<=x.2*d
 tight:∀i∈t,∀x,es[i]?=some x->dotL x.1 m=x.2*d
def J'(g:Int):∀m:List Int,(m.map (g*·)).sum=g*m.sum|[]=>by simp|x::m=>by simp only[M1,aS];rw[J' g m];grind
def WO(g:Int)(m:L')(i:Nat):(m.map (g*·)).getD i 0=g*m.getD i 0:=by simp only[D1,C2];cases m[i]?<;>simp
def lB{e:Nat} {j:aF} {z t:y0} {m:L'} {d:Int} (h:A6 e j z t=some (m,d))(X:1<=e)(q:e<=5)(H:∀x∈j,x.1.length=e)(k:∀i∈z,i<e)(Z:∀i∈t,i<j.length)(n:z.length+t.length+1=e):MixOf e j z t m d:=by
 unfold A6 at h;split at h;·cases h
 rename_i l c Y;split at h;·cases h
 rename_i I;split at h;·cases h
 rename_i s;have J:(hV e j z t).length=e:=by simp[hV];omega
 have K:∀row∈hV e j z t,row.length=(hV e j z t).length+1:=by
  intro row Q;rw[J];simp only[hV,ZBq,C1,b3]at Q;rcases Q with rfl|⟨i,y,rfl⟩|⟨i,y,rfl⟩;·simp
  .simp[hH]
  .have r:j.getD i default∈j:=by rw[D1,h' (Z i y)];exact D2 _
   rw[hK,H _ r];rfl
 obtain⟨E,o,p⟩:=kN Y Qa K;rw[J]at o p;have v:0<gcdL 0 (c::l):=s4 c Qd Qa;obtain⟨-,G⟩:=D5 (c::l) 0;generalize gcdL 0 (c::l)=g at*;have u:(0:Int)<g:=Qa
 obtain⟨rfl,rfl⟩:_/\_:=by simpa using h
 have S:=BS u (l:=l) fun x r=>G x (by simp[r]);have R:(g:Int)*(c / g)=c:=jL (G c Qd);have D:(l.map (· / (g:Int))).length=e:=by simpa using o
 generalize l.map (· / (g:Int))=m at*;generalize c / (g:Int)=d at*;subst S R;have f:∀{a b:Int},(g:Int)*a=g*b->a=b:=fun h=>rO Qa h;refine⟨D,?_,?_,?_,?_,?_,?_⟩;·exact CS (a:=(g:Int)) (by simpa using E) Qa
 .intro x r;simp only[h0,b3,h6,not_exists,not_and]at I;have:=I (g*x) ⟨x,r,rfl⟩;have U:0<=(g:Int)*x:=Qa
  exact l7 (a:=(g:Int)) (by simpa using U) u
 .have:=p (List.replicate (e+1) 1) (by simp[hV]);rw[xG _ _ (by rw[o];omega),J']at this;have N:(List.replicate (e+1) (1:Int)).getD e 0=1:=by simp[D1]
  rw[N]at this;exact f Qa
 .intro i y;have:=p (hH (e+1) i) (by simp only[hV,ZBq,C1,b3];exact .inr (.inl ⟨i,y,rfl⟩));rw[DC (by rw[o];omega),lA _ _ _ Qa,q' (by have:=k i y;omega),WO]at this;exact f Qa
 .intro x r;simp only[h0,not_exists,not_and]at s;have:=s x r;simp only[U2,rQ,Bool.not_eq_false,Int.not_le,iD,h6]at this;rw[HU]at this;have V:(g:Int)*dotL x.1 m<=g*(x.2*d):=Qn
  exact l7 V u
 .intro i y x r;have O:j.getD i default=x:=by rw[D1,r];rfl
  have:=p (x.1++[x.2]) (by simp only[hV,ZBq,C1,b3];exact .inr (.inr ⟨i,y,by rw[O]⟩));have L:=H x (k3 r);rw[BR _ _ _ (by rw[o,L]),HU]at this;have N:(x.1++[x.2]).getD e 0=x.2:=by simp[D1,<-L]
  rw[N]at this;exact f Qn
def Asc.nodup{b:Nat}:∀{l:y0} {a:Nat},Asc a b l->l.Nodup|[],_,_=>rR|x::t,a,h=>z7.2 ⟨fun d=>by have:=(Asc.lt h.2.2 x d).1;omega,h.2.2.nodup⟩
def inR(k n x:Nat):Bool:=decide (k<=x)&&decide (x<k+n)
def WQ(k n x:Nat):(if inR k (n+1) x=true then 1 else 0)=(if (x==k)=true then 1 else 0)+if inR (k+1) n x=true then 1 else 0:=by simp only[inR,aY,h6,cZ];split<;>split<;>split<;>omega
def KA(k n:Nat):∀z:List Nat,z.countP (inR k (n+1))=z.count k+z.countP (inR (k+1) n)|[]=>rfl|x::z=>by have:=KA k n z;have d:=WQ k n x;rw[uL,uL,List.count_cons,this];omega
def Jx(es:aF) {z t:y0} (h:z.Nodup):∀(ws:L')(k:Nat),(proofRows es z t k ws).length+z.countP (inR k ws.length)=ws.length
 |[],k=>by
  have:z.countP (inR k ([]:L').length)=0:=by rw[List.countP_eq_zero];intro x _;simp[inR]
  rw[this];rfl|w::ws,k=>by
  have f:=Jx es h ws (k+1) (z:=z) (t:=t);rw[y',KA,h.count];unfold proofRows;by_cases d:k∈z;·simp only[Zde d];omega
  .simp only[q' d,y'];omega
def xH(b:aF) {z t:y0}:∀(ws:L')(d j:Nat)(w:Int),ws[j]?=some w->d+j∉z->A8 b t (d+j) w∈proofRows b z t d ws
 |[],_,j,w,h,_=>by simp at h|v::ws,d,0,w,h,hz=>by simp at h;subst h;unfold proofRows;rw[q' (by simpa using hz)];exact fZ ..|v::ws,d,j+1,w,h,hz=>by
  have:=xH b (t:=t) ws (d+1) j w (by simpa using h) (by rwa [show d+1+j=d+(j+1)by omega]);rw[show d+1+j=d+(j+1)by omega]at this;unfold proofRows;split;·exact this
  .exact A5 _ this
def mS(es:aF) {z t:y0}:∀(ws:L')(k:Nat),∀row∈proofRows es z t k ws,row.length=t.length+2
 |[],k,row,h=>by cases h|v::ws,k,row,h=>by
  unfold proofRows at h;split at h;·exact mS es ws _ row h
  .rcases ZBq.1 h with rfl|h;·simp[A8]
   .exact mS es ws _ row h
def Q7(b:aF)(l:L')(c:Nat):Nat->List Nat->Int|_,[]=>0|k,i::t=>l.getD (k+1) 0*(b.getD i default).1.getD c 0+Q7 b l c (k+1) t
def KB(b:aF)(l:L')(c:Nat)(w:Int):∀(t:y0)(k:Nat)(l':L'),l'.length=t.length->(∀j,j<t.length->l'.getD j 0=l.getD (k+1+j) 0)->dotL (t.map (fun i=>-((b.getD i default).1.getD c 0))++[w]) l'=-Q7 b l c k t
 |[],k,l',h,_=>by have:l'=[]:=eX h;subst this;simp[dotL,Q7]|i::t,k,[],h,_=>by simp at h|i::t,k,x::l',h,hl=>by
  have d:=hl 0 Qd;simp only[r1,w7]at d;have:=KB b l c w t (k+1) l' (by simpa using h) fun j f=>by have:=hl (j+1) (by simpa using f);rw[hW]at this;rw[this];congr 1;omega
  simp only[M1,hP,dotL,Q7];rw[this,d];grind
def uV(l:L'):∀(t:y0)(k:Nat)(W:L'),(putW l k t W).length=W.length|[],_,_=>rfl|i::t,k,W=>by unfold putW;rw[uV l t];simp
def KC(l:L'):∀(t:y0)(k:Nat)(W:L')(i:Nat),i∉t->(putW l k t W)[i]?=W[i]?|[],_,_,_,_=>rfl|j::t,k,W,i,h=>by unfold putW;rw[KC l t _ _ _ (fun d=>h (A5 _ d)),F7 (by rintro rfl;exact h (fZ ..))]
def KD(c:Nat)(v:Int):∀(es:aF)(W:L')(i:Nat),i<es.length->i<W.length->putsL es (W.set i v) c=putsL es W c+(v-W.getD i 0)*(es.getD i default).1.getD c 0|[],_,_,h,_=>by simp at h|_::_,[],_,_,h=>by simp at h|x::es,w::W,0,_,_=>by simp only[List.set_cons_zero,putsL,r1];grind|x::es,w::W,i+1,h,h'=>by simp only[List.set_cons_succ,putsL,hW];rw[KD c v es W i (by simpa using h) (by simpa using h')];omega
def xI(b:aF)(l:L')(c:Nat):∀(t:y0)(k:Nat)(W:L'),W.length=b.length->t.Nodup->(∀i∈t,i<b.length)->(∀i∈t,W.getD i 0=0)->putsL b (putW l k t W) c=putsL b W c+Q7 b l c k t|[],k,W,_,_,_,_=>by simp[putW,Q7]|i::t,k,W,hW,hnd,ht,h0=>by obtain⟨h,d⟩:=z7.1 hnd;unfold putW;rw[xI b l c t (k+1) _ (by simpa using hW) d (fun j f=>ht j (A5 _ f)) (fun j f=>by rw[D1,F7 (by rintro rfl;exact h f),<-D1];exact h0 j (A5 _ f)),KD c _ b W i (ht i (fZ ..)) (by rw[hW];exact ht i (fZ ..)),h0 i (fZ ..)];simp only[Q7,Int.sub_zero];omega
def DD(c n:Nat):∀es:List Ex,putsL es (List.replicate n 0) c=0:=by induction n with|zero=>intro es;cases es<;>simp[putsL]|succ n ih=>intro es;cases es with|nil=>simp[putsL]|cons x es=>simp only[E9,putsL];rw[ih es];simp
def KE(l:L'):∀(t:y0)(k:Nat)(W:L'),(∀w∈W,0<=w)->(∀j,j<t.length->0<=l.getD (k+1+j) 0)->∀w∈putW l k t W,0<=w
 |[],_,_,h,_,w,hw=>h w hw|i::t,k,W,h,hl,w,hw=>by
  unfold putW at hw;refine KE l t (k+1) _ (fun v d=>?_) (fun j f=>?_) w hw
  .rcases kK d with d|rfl;·exact h v d
   .exact hl 0 Qd
  .have:=hl (j+1) (by simpa using f);rwa [show k+1+(j+1)=k+1+1+j by omega]at this
def KF(e:aF)(b c:Int)(W:L'):∀(ws:L')(d:Nat),hZ e b c W d ws=true->∀j,j<ws.length->c<=ws.getD j 0*b+putsL e W (d+j)|[],_,_,j,h=>by simp at h|w::ws,d,h,j,hj=>by unfold hZ at h;simp only[aY,h6]at h;cases j with|zero=>simpa using h.1|succ j=>have:=KF e b c W ws (d+1) h.2 j (by simpa using hj);rwa [show d+1+j=d+(j+1)by omega]at this
structure PrfOf (es:aF)(ws:L')(z t:y0)(p:Prf):Prop where
 len:p.W.length=es.length
 den:0<p.den
 nn:∀w∈p.W,0<=w
 lev:∀k,k<ws.length->p.lev<=ws.getD k 0*p.den+putsL es p.W k
 eq:∀k,k<ws.length->k∉z->p.lev=ws.getD k 0*p.den+putsL es p.W k
 sup:∀i w,p.W[i]?=some w->w≠0->i∈t
def WS{b:aF} {q:L'} {z t:y0} {p:Prf} (h:c7 b q z t=some p)(h5:q.length<=5)(hz:∀i∈z,i<q.length)(M:z.Nodup)(ht:∀i∈t,i<b.length)(F:t.Nodup)(aD:z.length+t.length+1=q.length):PrfOf b q z t p:=by
 unfold c7 at h;split at h;·cases h
 rename_i l n C;split at h;·cases h
 rename_i I;dsimp only at h;split at h;case isFalse=>cases h
 rename_i y;have Q:(proofRows b z t 0 q).length=t.length+1:=by
  have h1:=Jx b (t:=t) M q 0;have h2:z.countP (inR 0 q.length)=z.length:=by rw[rS];intro x A;have:=hz x A;simp[inR];omega
  omega
 obtain⟨L,m,o⟩:=kN C Qa (fun P J=>by rw[Q,mS b q 0 P J]);rw[Q]at m o;have f:∀c,putsL b (putW l 0 t (List.replicate b.length 0)) c=Q7 b l c 0 t:=fun c=>by rw[xI b l c t 0 _ Qd F ht (fun i Y=>by simp[D1,gH];split<;>rfl),DD];omega
 have U:(putW l 0 t (List.replicate b.length 0)).length=b.length:=by rw[uV];simp
 have K:∀w∈putW l 0 t (List.replicate b.length 0),0<=w:=by refine KE l t 0 _ (fun w r=>by rw[F1 r];exact rP _) (fun j B=>?_);simp only[h0,w5,h6,not_exists,not_and]at I;have:=I j B;rw[show 0+1+j=j+1 by omega];omega
 have X:∀i w,(putW l 0 t (List.replicate b.length 0))[i]?=some w->w≠0->i∈t:=fun i w r S=>by
  by_cases Y:i∈t;·exact Y
  .rw[KC l t 0 _ i Y,gH]at r;split at r;·cases r;exact absurd rfl S
   .cases r
 have N:∀k,k<q.length->k∉z->l.getD 0 0=q.getD k 0*n+Q7 b l k 0 t:=fun k O E=>by have hm:=xH b (t:=t) q 0 k (q.getD k 0) (by rw[D1,h' O];rfl) (by simpa using E);have J:=o _ hm;simp only[m']at J;unfold A8 at J;cases l with|nil=>simp at m|cons x l=>
   simp only[dotL]at J;have Z:=KB b (x::l) k (q.getD k 0) t 0 l (by simpa using m) fun j B=>by rw[show 0+1+j=j+1 by omega,hW]
   rw[Z]at J;have e:(1::(t.map (fun i=>-((b.getD i default).1.getD k 0))++[q.getD k 0])).getD (t.length+1) 0=q.getD k 0:=by rw[hW,D1,bA Qd];simp
   rw[e]at J;simp only[r1];omega
 have H:=KF _ _ _ _ _ _ y;simp only[m',f]at H;have hg:0<gcdL 0 (n::l.getD 0 0::putW l 0 t (List.replicate b.length 0)):=s4 n Qd Qa;obtain⟨-,s⟩:=D5 (n::l.getD 0 0::putW l 0 t (List.replicate b.length 0)) 0;simp only[<-f]at H N;generalize gcdL 0 (n::l.getD 0 0::putW l 0 t (List.replicate b.length 0))=g at*;generalize putW l 0 t (List.replicate b.length 0)=W at*;generalize l.getD 0 0=u at*;have D:(0:Int)<g:=Qa
 obtain rfl:_=p:=by simpa using h
 have el:=BS D (l:=W) fun x A=>s x (by simp[A]);have T:(g:Int)*(n / g)=n:=jL (s n Qd);have ev:(g:Int)*(u / g)=u:=jL (s u Qd);have G:(W.map (· / (g:Int))).length=b.length:=by simpa using U
 clear h s C I o m f y;generalize W.map (· / (g:Int))=V at*;generalize n / (g:Int)=d at*;generalize u / (g:Int)=v at*;subst el T ev;refine⟨G,CS (a:=(g:Int)) (by simpa using L) Qa,?_,?_,?_,?_⟩;·intro w r;have:=K (g*w) (b3.2 ⟨w,r,rfl⟩);exact l7 (a:=(g:Int)) (by simpa using this) D
 .intro k O;have:=H k O;rw[HV]at this;exact l7 (a:=(g:Int)) Qn D
 .intro k O E;have:=N k O E;rw[HV]at this;exact rO (a:=(g:Int)) Qa Qn
 .intro i w r S;refine X i (g*w) (by rw[C2,r];rfl) (fun R=>?_);rcases Int.mul_eq_zero.1 R with R|R;·omega
  .exact S R
open Tryz
open Go.RowKit
def rU{a:e6} {b:Nat} (h:RightE a b)(i c:Nat):(((exs a).getD i default).1.getD c 0).natAbs<=20:=by rw[D1 (l:=exs a)];cases d:(exs a)[i]? with|none=>simp[default,instInhabitedProd]|some x=>exact(h.exs_co x (k3 d)).get c
def uW{es:e6} {a:Nat} (h:RightE es a) {z t:y0}:∀(ws:L')(k:Nat),ZK 400 ws->gW (proofRows (exs es) z t k ws)
 |[],_,_,row,f=>by cases f|w::ws,k,hs,row,f=>by
  unfold proofRows at f;have m:=uW h (z:=z) (t:=t) ws (k+1) fun x d=>hs x (by simp[d]);split at f;·exact m row f
  .rcases ZBq.1 f with rfl|f
   .intro x d;unfold A8 at d;rcases ZBq.1 d with rfl|d;·decide
    .rcases C1.1 d with d|d;·obtain⟨i,-,rfl⟩:=b3.1 d;rw[Int.natAbs_neg];exact h9 (rU h i k) Qc
     .rw[y2]at d;subst d;exact hs x Qd
   .exact m row f
def tT(q:Option Prf)(d f:Nat)(e:Ending)(a:World):Prop:=match q with|none=>e=.returned (.tuple #[.agg #[(0:Int),(0:Int),.slice none 0 0],false])|some p=>∃A c,e=.returned (.tuple #[.agg #[p.den,p.lev,.slice A d c],true])/\a.ownsRow f 3 1 (.slice A d c) d (p.W.map (Value.int .i64))
def DE{P:aA} {f:aE} {o:Oper} {t:aN} {p q:Operand} {v r:Value} {x d:World} (i:o.op=.makeSlice t p q)(hp:f p=v)(hq:f q=v)(h:(Instr.makeSlice t v v).run P x=.ok r d):(execOp f o).run P x=.ok (.value r) d:=by unfold execOp;rw[i];simp only[hp,hq,aD,h,aI,aP]
def _root_.Qw{P:Prop}(h:P:=by intro a b;simp only[ZBq,ZBH,ZyH]at b;rcases b with rfl|rfl|rfl<;>(intro c d;kernel_rfl)):P:=h
def _root_.Qx{P:Prop}(h:P:=by intro a b;simp only[ZBq,ZBH,ZyH]at b;rcases b with rfl|rfl|rfl|rfl<;>(intro c d;kernel_rfl)):P:=h
def WT(pA eA tA wA:i')(zv:Value)(np pc d ec F tc wc:Nat)(es:e6)(B:L')(z t:y0)(w:World)(hR:RightE es np)(hE:h7 w eA es)(eK:es.length=d)(hT:At 1 Zc w tA (ZO t))(eY:t.length=F)(hW:At 1 Zc w wA B)(fD:B.length=np)(h5:np<=5)(fF:ZK 400 B)(hz:∀i∈z,i<np)(fJ:z.Nodup)(ht:∀i∈t,i<d)(cX:t.Nodup)(fL:z.length+t.length+1=np)(fK:zv.oneCell'=true):Calls prog 79 #[.agg (Z5 (.slice pA np pc) (.slice eA d ec) zv (.slice tA F tc) z t).toArray,.slice wA np wc] w fun e w'=>tT (c7 (exs es) B z t) d w.heap.size e w'/\QB w w':=by
 obtain⟨BA,dB⟩:=Qu ((Z5 (.slice pA np pc) (.slice eA d ec) zv (.slice tA F tc) z t).toArray);have fO:=hR.n8;have fT:=w0 fun W (hb:QB w W) k (hk:k<F)=>D9 (hT.below hb) (k:=k) (by rw[x7];omega);have fW:=w0 fun W (hb:QB w W) k (hk:k<np)=>D9 (hW.below hb) (k:=k) Qa;have fE:=w0 fun W (hb:QB w W) i c (hi:i<d)(hc:c<np)=>(by
  have dJ:i<es.length:=Qa
  obtain⟨b,o,hA,bI,gA⟩:=(hE.below hb).1 i _ (h' dJ);have C:=D2 dJ;obtain⟨h1,h2,-⟩:=hR.co _ C;obtain⟨b2,o2,hA2,eP,fZ⟩:=D9 ((hE.below hb).2 _ C) (k:=c) Qa;refine⟨es[i],b,o,b2,o2,hA,bI,eP,h1,?_,fZ,h2.get c,W9 (h' dJ)⟩;have:=gA 1 _ rfl;rw[hA2]at this;exact this:∃x:En,∃b o b2 o2,eA=some ⟨b,o,none⟩/\b<W.heap.size/\b2<W.heap.size/\x.co.length=np/\W.cell? ⟨b,o+i*3+1,none⟩=some (.slice (some ⟨b2,o2,none⟩) x.co.length x.c)/\W.cell? ⟨b2,o2+c,none⟩=some (.int .i64 (x.co.getD c 0))/\(x.co.getD c 0).natAbs<=20/\(exs es).getD i default=(x.co,x.mo));have cF:=w0 hR;have fN:=w0 hE;have J:=w0 eK;have Z:=w0 eY;have aD:=w0 fD;have cA:=w0 fF;have gP:=w0 hz;have eX:=w0 ht;have cZ:=w0 fJ;have gK:=w0 cX;have fM:=w0 fL;have gW:=w0 fK;have aE:=w0 dB;have hU:F<=4:=Qa
 rw[dB];obtain⟨i0,hi,dU,dV,dW⟩:=n9 info3;obtain⟨i1,hj,gD,gE,cH⟩:=n9 info31;obtain⟨X,hX⟩:=Qu (exs es);have aS:=w0 hX;rw[hX]at fE |-;clear hR hE eK eY fD fF hz ht fJ cX fL fK dB hT hW hX;go_enter func79,ntmps79;go_wp2;go_loopw [6,24] (fun v6 i wr=>∃(k:Nat)(xs:List IR),k<=np/\i=.int .i64 k/\Hid (RowsOwn wr (w.heap.size+2) v6 xs/\xs.map IR.l=proofRows X z t 0 (B.take k))/\wr.heap[w.heap.size]?=some (.cells BA 136)/\wr.heap[w.heap.size+1]?=some (.cells #[(0:Int),(0:Int),.slice none 0 0] 32)/\QB w wr)(fun _ i _=>np-(intOf i).toNat);case atStart=>exact⟨0,[],k2 _,rfl,⟨RowsOwn.nil _ _,by simp[proofRows]⟩,Qs,Qs,Qi⟩
 case round=>
  obtain⟨wo,gM⟩:∃wo,wo=wr:=⟨_,rfl⟩;subst gM;obtain⟨k,xs,hk,rfl,E,M0,M1,aU⟩:=hrel;have s0:=ZG M0;have s1:=ZG M1;have MB:wo.heap[w.heap.size]?=some (.cells (Z5 (.slice pA np pc) (.slice eA d ec) zv (.slice tA F tc) z t).toArray 136 (0,0)):=by rw[aE.out];exact M0
  have bB:=M4 MB (k:=1) rfl;have aN:=M4 MB (k:=3) rfl;by_cases bI:k<np
  .have eM:(k:Int)<(np:Int):=Qa
   have hL:(k:Int)<5:=Qa
   obtain⟨bw,ow,rfl,eJ,cw⟩:=fW.out wo aU k bI;obtain⟨u,N⟩:∃u,B[k]?=some u:=⟨_,h' (by rw[aD.out];exact bI)⟩;have eZ:B.getD k 0=u:=by rw[D1,N];rfl
   rw[eZ]at cw;have cz:=M4 MB (xF (.slice pA np pc) (.slice eA d ec) zv (.slice tA F tc) z t k Qa);have cL:=w0 (show proofRows X z t 0 (B.take (k+1))=proofRows X z t 0 (B.take k)++if k∈z then []else [A8 X t k u]by rw[w9,N];have:=J5 X z t (B.take k) 0 u;rw[Q3,Dn (by rw[aD.out];omega),m']at this;exact this);have gO:Hid (xs.length<=k):=w0 (by have h1:=w6 List.length E.out.2;rw[sA]at h1;have h2:=Jx X (t:=t) cZ.out (B.take k) 0;rw[Q3,Dn (by rw[aD.out];omega)]at h2;omega);clear N eZ MB;by_cases bH:k∈z
   .have bU:decide (k∈z)=true:=by simpa using bH
    rw[bU]at cz;have cK:=w0 (show RowsOwn wo (w.heap.size+2) u6 xs/\xs.map IR.l=proofRows X z t 0 (B.take (k+1))from⟨E.out.1,by rw[cL.out,Zde bH,q5];exact E.out.2⟩);clear bH E cL;go_wp2;go_roundw;case rel=>exact⟨k+1,xs,Qa,Qj,cK.out,M0,M1,aU⟩
    case measure=>exact Qv
   .have bU:decide (k∈z)=false:=by simpa using bH
    rw[bU]at cz;have cK:=w0 (show proofRows X z t 0 (B.take (k+1))=xs.map IR.l++[A8 X t k u]from by rw[cL.out,q' bH,E.out.2]);have aM:=w0 E.out.1;clear bH E cL;go_wp2;go_loopw [9,37] (fun v9 j wi=>∃q:Nat,q<=F/\j=.int .i64 q/\wi.ownsRow wo.heap.size 3 1 v9 (q+1) ((mI X t k q).map (Value.int .i64))/\QB wo wi/\wo.heap.size<wi.heap.size) (fun _ j _=>F-(intOf j).toNat);case atStart=>
     refine⟨0,k2 _,rfl,?_,?_,?_⟩;·exact⟨rfl,.inr ⟨wo.heap.size,1,#[.int .i64 1],rfl,sW _,ZA _ _ rfl,sW _,Qc,rfl,rfl⟩⟩
     .exact ZC _ _
     .simp
    case round=>
     obtain⟨q,hq,rfl,aH,bN,hP⟩:=hrel;obtain⟨A9,c9,rfl⟩:=Z3 aH;have N0:=(bN.block _ s0).trans M0;have N1:=(bN.block _ s1).trans M1;have P:wr.heap[w.heap.size]?=some (.cells (Z5 (.slice pA np pc) (.slice eA d ec) zv (.slice tA F tc) z t).toArray 136 (0,0)):=by rw[aE.out];exact N0
     have dX:=M4 P (k:=1) rfl;have O:=via aU bN;have t0:=ZG N0;have r:=w0 aH;clear aH P;by_cases aR:q<F
     .have gH:(q:Int)<(F:Int):=Qa
      obtain⟨bt,ot,rfl,fY,ct⟩:=fT.out wr O q aR;obtain⟨i,aL⟩:∃i,t[q]?=some i:=⟨_,h' (by rw[Z.out];exact aR)⟩;have bT:(ZO t).getD q 0=(i:Int):=by rw[D1,RP aL];rfl
      rw[bT]at ct;have dK:=eX.out i (k3 aL);have G:=w0 (WC (es:=X) (c:=k) aL);have gC:(i:Int)<(d:Int):=Qa
      obtain⟨x,be,oe,b2,o2,rfl,hH,aT,cN,c1,c2,gJ,hg⟩:=fE.out wr O i k dK bI;have hM:(k:Int)<(x.co.length:Int):=Qa
      rw[hg]at G;obtain⟨y,hy⟩:=Qu (x.co.getD k 0);dsimp only at G;rw[hy]at c2 gJ G;have hY:IntKind.i64.wrap (-y)=-y:=B3 _ Qa;generalize x.co.length=L at*;clear bT aL hy hg;go_wp2_with (at_builtin;refine X0 _ rfl _ _ 30 rfl wo.heap.size 3 i0 (.int .i64 0) 1 8 underlying30 hi dU dV dW rfl Qc _ _ _ rfl (r.out.alloc _) ⟨wr.heap.size,0,none⟩ 1 1 [.int .i64 (-y)] rfl rfl ?c1 ?c2 ?c3 ?c4 ?c5 ?_);case c1=>exact D7 _ [.int .i64 (-y)] _ Qd
      case c2=>intro u N;simp at N;subst N;rfl
      case c3=>unfold maxLen;omega
      case c4=>omega
      case c5=>simp;omega
      intro v' w3 aB bG _;have aK:QB wo w3:=ZS (via bN (ZC _ _)) bG fun b e=>(r.out.lt b e).1;have eW:wo.heap.size<w3.heap.size:=by have:=bG.size;simp at this;omega
      have I:=w0 (show w3.ownsRow wo.heap.size 3 1 v' (q+1+1) ((mI X t k (q+1)).map (Value.int .i64))from by rw[G.out,x0];exact aB);clear aB bG r G;go_wp2;go_roundw;case rel=>exact⟨q+1,Qa,Qj,I.out,aK,eW⟩
      case measure=>exact Qv
     .obtain rfl:q=F:=Qa
      clear dX aR;go_wp2_with (at_builtin;refine r9 _ rfl _ _ 30 rfl wo.heap.size 3 i0 (.int .i64 0) 1 8 underlying30 hi dU dV dW rfl Qc _ _ _ rfl (r.out.alloc _) ⟨wr.heap.size,0,none⟩ 1 1 [.int .i64 u] rfl rfl ?c1 ?c2 Qc ?c3 ?c4 ?c5 (wr.heap.size+1) ?c6 ?_);case c1=>exact D7 _ [.int .i64 u] _ Qd
      case c2=>intro u N;simp at N;subst N;rfl
      case c3=>unfold maxLen;omega
      case c4=>omega
      case c5=>simp;omega
      case c6=>simp
      intro g9 aI w3 aB bG eS eQ;have aK:QB wo w3:=ZS (via bN (ZC _ _)) bG fun b e=>(r.out.lt b e).1;have fU:=(aB.lt g9 rfl).1;have aJ:=w0 (aM.out.below aK);have fI:=w0 (show At 1 Zc w3 (some ⟨g9,0,none⟩) (A8 X t k u)from e7 (base:=wo.heap.size) (n:=q+1+1) (e:=3) (c:=aI) (by rw[<-WD,x0,Z.out];exact aB));have cJ:=w0 (show (A8 X t k u).length=q+1+1 from by simp[A8,Z.out]);have eR:=w0 (show some g9≠u6.ownBlock from fun e=>by have:=(aM.out.own.lt g9 e.symm).2;omega);have gU:wo.heap.size<w3.heap.size:=Nat.lt_of_le_of_lt fU eQ;have bQ:=via aU aK;have P0:=(aK.block _ s0).trans M0;have P1:=(aK.block _ s1).trans M1;obtain⟨A6,c6,rfl⟩:=Z3 aM.out.own;clear aB bG eS r N0 N1;have gV:=gO.out;go_wp2_with (at_builtin;refine r9 _ rfl _ _ 160 rfl (w.heap.size+2) 30 i1 (.slice none 0 0) 1 24 underlying160 hj gD gE cH rfl Qc _ _ _ rfl (aJ.out.own.alloc _) ⟨w3.heap.size,0,none⟩ 1 1 [.slice (some g9) (q+1+1) aI] rfl rfl ?c1 ?c2 Qc ?c3 ?c4 ?c5 (w3.heap.size+1) ?c6 ?_);case c1=>exact D7 _ [.slice (some g9) (q+1+1) aI] _ Qd
      case c2=>intro u N;simp at N;subst N;rfl
      case c3=>unfold maxLen;omega
      case c4=>omega
      case c5=>simp;omega
      case c6=>simp
      intro g gZ w4 I aQ cV gR;have eF:=w0 (RowsOwn.push (x:=⟨some ⟨g9,0,none⟩,aI,A8 X t k u⟩) aJ.out (ZC w3 _) rfl (fI.out.below (ZC w3 _)) Qg Qk eR.out aQ (by show w4.ownsRow _ 30 1 _ _ (_++[Value.slice (some g9) (A8 X t k u).length aI]);rw[cJ.out];exact I) (by simpa using cV));have aC:QB w w4:=ZS (via bQ (ZC _ _)) aQ fun b e=>by have:=(aJ.out.own.lt b e).1;omega
      have Q0:=b5 aQ (Zz P0 _) (P3 aJ.out.own Qa);have Q1:=b5 aQ (Zz P1 _) (P3 aJ.out.own Qa);have S:=w0 (show (xs++[(⟨some ⟨g9,0,none⟩,aI,A8 X t k u⟩:IR)]).map IR.l=proofRows X z t 0 (B.take (k+1))from by rw[cK.out,x0];rfl);clear I aQ cV aJ fI cK P0 P1;go_wp2;go_roundw;case rel=>exact⟨k+1,_,Qa,Qj,⟨eF.out,S.out⟩,Q0,Q1,aC⟩
      case measure=>exact Qv
  .obtain rfl:np=k:=Qa
   have aO:B.take np=B:=by rw[<-aD.out,x1]
   obtain⟨dP,S⟩:=E.out;rw[aO]at S;have cN:xs.length=F+1:=by
    have h1:=w6 List.length S;rw[sA]at h1;have h2:=Jx X (t:=t) cZ.out B 0;have h3:z.countP (inR 0 B.length)=z.length:=by rw[rS];intro x C;have:=gP.out x C;have:=aD.out;simp[inR];omega
    have:=fM.out;have:=aD.out;have:=Z.out;omega
   obtain⟨A6,c6,rfl⟩:=Z3 dP.own;have hS:=w0 (BZ A6 xs c6 wo dP.rowsAt (fun x C=>by have:=mS X (z:=z) (t:=t) B 0 x.l (by rw[<-S];exact b3.2 ⟨x,C,rfl⟩);have:=Z.out;omega) Qa Qa (by rw[S,<-aS.out];exact uW cF.out B 0 cA.out));rw[S]at hS;rw[cN]at hS |-;have bY:=w0 S;have cY:=w0 cN;obtain⟨sl,dS⟩:=Qu (C0 (proofRows X z t 0 B));have aZ:=w0 dS;unfold mO at hS;rw[dS]at hS;clear dS dP E aO bI MB bB aN cN S;rcases sl with _|⟨l,den⟩
   .dsimp only at hS;have aG:=w0 (show c7 X B z t=none by unfold c7;rw[aZ.out]);go_wp2_with (go_at_call 100;refine hS.out.mono ?_;rintro e w2 ⟨rfl,aT⟩;have N1:=Zx aT M1;have C1:=bk3 N1;have O:=via aU aT);refine r3 (v:=.tuple #[.agg #[(0:Int),(0:Int),.slice none 0 0],false]) ?_ rfl ⟨?_,Qi⟩;·simp[results,results79,go_sem,C1]
    .unfold tT;rw[aG.out]
   .dsimp only at hS;have cJ:(proofRows X z t 0 B).length=F+1:=by rw[<-bY.out,sA];exact cY.out
    obtain⟨cI,dH,hJ,eO⟩:=rF aZ.out Qa (by rw[<-aS.out];exact uW cF.out B 0 cA.out);rw[cJ]at cI;rw[cI]at hS;have cT:=w0 cI;have bX:=w0 eO;clear eO cJ cI;go_wp2_with (go_at_call 100;refine hS.out.mono ?_;rintro e w2 ⟨⟨v,rfl,aH⟩,aT⟩;obtain⟨gX,gY,rfl⟩:=Z3 aH;have N0:=Zx aT M0;have N1:=Zx aT M1;have C1:=bk3 N1;have O:=via aU aT;have r:=w0 aH;clear aH);have P:w2.heap[w.heap.size]?=some (.cells (Z5 (.slice pA np pc) (.slice eA d ec) zv (.slice tA F tc) z t).toArray 136 (0,0)):=by rw[aE.out];exact N0
    have bB:=M4 P (k:=1) rfl;have aN:=M4 P (k:=3) rfl;have cD:=M4 P (k:=0) rfl;obtain⟨lev,bV⟩:=Qu (l.getD 0 0);have cS:=e7 r.out;obtain⟨bJ,hA12,fX,bL,c0⟩:=X5 r.out (k:=0) (u:=.int .i64 lev) (by rw[<-bV];cases l with|nil=>have:=cT.out;simp at this|cons x l=>rfl);subst hA12;have aW:=w0 bV;have dM:=w0 cS;clear hS bV cS P;have gT:=ZG N1;apply WE w 8 10 11 d (.cells (D3 (List.replicate d 0)) 3) (.cells #[(0:Int),(0:Int),.slice none 0 0] 32) (fun h=>.cells #[den,lev,.slice (some h.b) d d] 32);case hm=>kernel_rfl
    case hB=>kernel_rfl
    case hB'=>intro g;kernel_rfl
    case hS|hN=>kernel_rfl
    case hne=>decide
    case hkd=>kernel_rfl
    case hcl=>intro L _ o U h;simp at U;subst U;simp[Region.binds]at h;exact⟨by simp[h],by simp[h]⟩
    case hw=>exact O
    case hq=>
     intro g u N bS bF fV;have d0:=Zx N N0;have P:u.heap[w.heap.size]?=some (.cells (Z5 (.slice pA np pc) (.slice eA d ec) zv (.slice tA F tc) z t).toArray 136 (0,0)):=by rw[aE.out];exact d0
     have e1:=M4 P (k:=1) rfl;have e2:=(N.cell (show (⟨bJ,0,none⟩:Addr).block<_ from bL)).trans c0;have z1:bJ<u.heap.size:=h8 bL N.size;have z2:w.heap.size<u.heap.size:=ZG d0;simp only[mixL,mkMAS,yieldsC,l5,n7,Nat.reduceAdd,Nat.reduceBEq,m',o7,sS,p',k7,nK,ZyJ,ZyI,r5,Nat.reduceEqDiff];repeat (go_big_quiet_step (fail))
     exact ZyG rfl
    case hal1=>intro o U g x bF;simp only[p0,B4,M3]at U;subst U;refine DE (v:=.int .i64 d) rfl Qb Qb ?_;exact BD d (by have:=J.out;omega) x
    case hal2=>intro o U g x;simp only[p0,B4,M3]at U;subst U;kernel_rfl
    case hind=>exact Qw
    case hs=>intro o U g x C hz;simp only[p0,B4,M3]at U;subst U;exact⟨_,s3 rfl rfl rfl rfl Qb Qb Qb hz,(((OnlyB.refl _ _).set _ _).set _ _).set _ _,ZH (ZH (ZH hz _ rfl) _ rfl) _ rfl⟩
    case hend=>
    intro g u dA dY aY N bQ E1 E2;obtain⟨R,hR⟩:=Qu ((g 8).b);obtain⟨Q,hQ⟩:=Qu ((g 10).b);rw[hR]at dA aY E1 E2;rw[hQ]at dY aY E2;have hI:Hid (ZN 3 u R (List.replicate d 0)):=w0 E1;rw[hR,hQ];clear hR hQ C1 bB aN cD c0 E1 bQ M0 M1 g aU bY cY;have P0:=Zx N N0;have P:u.heap[w.heap.size]?=some (.cells (Z5 (.slice pA np pc) (.slice eA d ec) zv (.slice tA F tc) z t).toArray 136 (0,0)):=by rw[aE.out];exact P0
    have aN:=M4 P (k:=3) rfl;clear P P0;go_wp2;go_loopw [86] (fun i wr=>∃q:Nat,q<=F/\i=.int .i64 q/\Hid (ZN 3 wr R (putW l 0 (t.take q) (List.replicate d 0)))/\wr.heap[Q]?=some (.cells #[den,lev,.slice (some R) d d] 32)/\Hid (∀j,j<q->¬l.getD (j+1) 0<0)/\QB w2 wr) (fun i _=>F-(intOf i).toNat);case atStart=>exact⟨0,k2 _,rfl,hI.out,E2,fun j hj=>Qa,N⟩
    case round=>
     clear hI E2 aN;obtain⟨q,hq,rfl,H,aA,dO,K⟩:=hrel;have P0:=Zx K N0;have P1:=Zx K N1;have P:wr.heap[w.heap.size]?=some (.cells (Z5 (.slice pA np pc) (.slice eA d ec) zv (.slice tA F tc) z t).toArray 136 (0,0)):=by rw[aE.out];exact P0
     have aN:=M4 P (k:=3) rfl;have D:=bk3 aA;have aC:=via O K;clear P;by_cases aR:q<F
     .have gH:(q:Int)<(F:Int):=Qa
      obtain⟨bt,ot,rfl,fY,ct⟩:=fT.out wr aC q aR;obtain⟨i,aL⟩:∃i,t[q]?=some i:=⟨_,h' (by rw[Z.out];exact aR)⟩;have bT:(ZO t).getD q 0=(i:Int):=by rw[D1,RP aL];rfl
      rw[bT]at ct;have dK:=eX.out i (k3 aL);have gC:(i:Int)<(d:Int):=Qa
      have G:=w0 (UU l (W:=List.replicate d 0) aL);obtain⟨b9,o9,e9,-,cl⟩:=D9 (dM.out.below K) (k:=q+1) (by rw[cT.out];omega);cases e9;rw[m']at cl;obtain⟨x,C⟩:=Qu (l.getD (q+1) 0);rw[C]at cl G;have fG:=w0 C;obtain⟨V,hV⟩:=Qu (putW l 0 (t.take q) (List.replicate d 0));rw[hV]at H G;have eG:V.length=d:=by rw[<-hV,uV,xD]
      have ci:=H.out.loadD (k:=i) Qa;have fi:=H.out.frozen i;have eV:=H.out.size;have eT:bJ<wr.heap.size:=h8 bL K.size;have eU:=ZG aA;have cM:IntKind.i64.wrap ((q:Int)+1)=(q:Int)+1:=B3 _ Qa;have eH:=w0 eG;clear bT aL C hV eG;go_wp2;refine B9 w 9 Qb Qb Qi ?_;intro bS bF;simp only[sT,j0,r4,e5];repeat (go_big_quiet_step (fail))
      refine ZyG ?_;intro wb m aX dR;clear bS bF;have bE:=w0 (H.out.below m);have dD:=Zx m aA;have R1:=Zx m P1;have C1:=bk3 R1;have bO:=via K m;have hC:=bE.out.loadD (k:=i) (by rw[eH.out];exact dK);have hG:=bE.out.frozen i;have hD:=(m.cell (show (⟨bJ,q+1,none⟩:Addr).block<_ from eT)).trans cl;have gS:bJ≠R:=Qa
      have hO:w.heap.size+1≠R:=Qa
      have fQ:=w0 (show ZN 3 (wb.setCell ⟨R,i,none⟩ (.int .i64 x)) R (putW l 0 (t.take (q+1)) (List.replicate d 0))from by have:=bE.out.store i x;rwa [<-G.out]at this);clear H aA P0 P1 D ci fi cl aN ct bE;by_cases fH:x<0
      .have aG:=w0 (show c7 X B z t=none by unfold c7;simp only[aZ.out];rw[Zde (UW (k:=q) (by rw[Z.out];exact aR) (by rw[fG.out];exact fH))]);go_wp2;refine r3 (v:=.tuple #[.agg #[(0:Int),(0:Int),.slice none 0 0],false]) ?_ rfl ⟨?_,?_⟩;·refine b4 (p:=4) (u:=5) (ad:=⟨w.heap.size+1,0,none⟩) (v:=.agg #[(0:Int),(0:Int),.slice none 0 0]) rfl Qe (x3 (T:=32) (cs:=[.int .i64 0,.int .i64 0,.slice none 0 0]) Qb Qb ?_);exact ZH (ZH (ZH (ZB R1 (by first|omega|(dsimp only;omega)) _) _ rfl) _ rfl) _ rfl
       .unfold tT;rw[aG.out]
       .first|go_grown|(repeat' (first|exact aX|refine mR ?_ Qg _))
      .go_wp2;go_roundw;case rel=>exact⟨q+1,Qa,Qj,fQ.out,ZB dD (by first|omega|(dsimp only;omega)) _,(fun j hj=>by
        by_cases gG:j=q;·rw[gG,fG.out];exact fH
        .have:=dO.out j Qa;omega),bO.setCell (by first|omega|(dsimp only;omega)) _⟩
       case measure=>exact Qv
     .obtain rfl:F=q:=Qa
      have aO:t.take F=t:=by rw[<-Z.out,x1]
      rw[aO]at H;obtain⟨W,hW⟩:=Qu (putW l 0 t (List.replicate d 0));rw[hW]at H;have aF:=w0 (show W.length=d by rw[<-hW,uV,xD]);have cG:=w0 (show ZK 1228800000000000 W by rw[<-hW];exact wT bX.out t 0 _ fun x C=>by rw[F1 C];decide);have bZ:=w0 (show c7 X B z t=if hZ X den lev W 0 B=true then some {den:=den / (gcdL 0 (den::lev::W):Int),lev:=lev / (gcdL 0 (den::lev::W):Int),W:=W.map (· / (gcdL 0 (den::lev::W):Int))} else none by
       have fS:X.length=d:=by rw[<-aS.out,Z7];exact J.out
       unfold c7;simp only[aZ.out];rw[q' (by rw[UX (by rw[Z.out];exact dO.out)];decide),fS,hW,aW.out]);clear aR aO hW dO aN D P0 P1;go_wp2;go_loopw [110] (fun i wr=>∃k:Nat,k<=np/\i=.int .i64 k/\Hid (ZN 3 wr R W)/\wr.heap[Q]?=some (.cells #[den,lev,.slice (some R) d d] 32)/\Hid (∀j,j<k->¬(B.getD j 0*den+putsL X W j<lev))/\QB w2 wr)(fun i _=>np-(intOf i).toNat);case atStart=>exact⟨0,k2 _,rfl,H.out,aA,fun j hj=>Qa,K⟩
      case round=>
       clear H aA K aC;obtain⟨k,hk,rfl,H,aA,dN,K⟩:=hrel;have P0:=Zx K N0;have P1:=Zx K N1;have P:wr.heap[w.heap.size]?=some (.cells (Z5 (.slice pA np pc) (.slice eA d ec) zv (.slice tA F tc) z t).toArray 136 (0,0)):=by rw[aE.out];exact P0
       have cD:=M4 P (k:=0) rfl;have bB:=M4 P (k:=1) rfl;have D:=bk3 aA;have aC:=via O K;have eV:=H.out.size;have eU:=ZG aA;have dQ:=ZG P0;clear P;by_cases aV:k<np
       .have eM:(k:Int)<(np:Int):=Qa
        obtain⟨bw,ow,rfl,eJ,cw⟩:=fW.out wr aC k aV;obtain⟨u,N⟩:=Qu (B.getD k 0);rw[N]at cw;obtain⟨T,hT⟩:=Qu (putsL X W k);have eC:=w0 fun(x:Grew wr)=>(by have:=BY pA eA (some ⟨R,0,none⟩) np pc ec d np es W den lev k x.val cF.out (fN.out.below (via aC x.ok)) (H.out.below x.ok).at' (by rw[aF.out,J.out]) aV (fun y hy=>h9 (cG.out y hy) Qc);rw[J.out,aF.out,aS.out,hT]at this;exact this:Calls prog 72 #[.agg #[(.slice pA np pc),(.slice eA d ec)],.agg #[den,lev,.slice (some R) d d],k] x.val fun e w'=>e=.returned T/\Below x.val.heap.size x.val w');have fR:T.natAbs<=8*(1228800000000000*20):=by have:=jR (X:=20) (Y:=1228800000000000) k X W X.length (by rw[<-aS.out];exact cF.out.exs_co) cG.out;rw[x1,<-aS.out,Z7,e0 (by rw[aF.out,J.out];exact sW _),aS.out,hT]at this;refine h9 this (N2 _ fO)
        have fA:u.natAbs<=400:=by rw[<-N];exact cA.out.get k
        have fB:=g' fA dH;obtain⟨y,hy⟩:=Qu (u*den);rw[hy]at fB;obtain⟨s,hs⟩:=Qu (y+T);have cM:IntKind.i64.wrap (u*den)=y:=by rw[hy];exact B3 _ Qa
        have fC:IntKind.i64.wrap (y+T)=s:=by rw[hs];exact B3 _ Qa
        have cW:=w0 (show B.getD k 0*den+putsL X W k=s by rw[N,hT,hy,hs]);clear N hT fR fA fB hy hs;go_wp2;refine B9 w 11 Qb Qb Qi ?_;intro bS bF;simp only[sT,j0,r4,e5];repeat (go_big_quiet_step ((go_at_call 72;with_reducible exact Grew.call (eC.out _))))
        refine ZyG ?_;intro wb m aX dR;clear bS bF;have bE:=w0 (H.out.below m);have dD:=Zx m aA;have R1:=Zx m P1;have C1:=bk3 R1;have bO:=via K m;clear H aA P0 P1 D cD bB cw eC;by_cases dQ:s<lev
        .have aG:=w0 (show c7 X B z t=none by rw[bZ.out,UY (j:=k) (by rw[aD.out];exact aV) (by rw[cW.out];exact dQ)];rfl);go_wp2;refine r3 (v:=.tuple #[.agg #[(0:Int),(0:Int),.slice none 0 0],false]) ?_ rfl ⟨?_,?_⟩;·refine b4 (p:=4) (u:=5) (ad:=⟨w.heap.size+1,0,none⟩) (v:=.agg #[(0:Int),(0:Int),.slice none 0 0]) rfl Qe (x3 (T:=32) (cs:=[.int .i64 0,.int .i64 0,.slice none 0 0]) Qb Qb ?_);exact ZH (ZH (ZH (R1) _ rfl) _ rfl) _ rfl
         .unfold tT;rw[aG.out]
         .first|go_grown|(repeat' (first|exact aX|refine mR ?_ Qg _))
        .go_wp2;go_roundw;case rel=>exact⟨k+1,Qa,Qj,bE.out,dD,(fun j hj=>by
          by_cases gF:j=k;·rw[gF,cW.out];exact dQ
          .exact iD.2 (dN.out j Qa)),bO⟩
         case measure=>exact Qv
       .obtain rfl:np=k:=Qa
        have bA:=bZ.out;rw[UZ (fun j hj=>dN.out j (by rw[aD.out]at hj;exact hj)),Zde rfl]at bA;have fP:0<gcdL 0 (den::lev::W):=s4 den Qd Qa;have bR:=(D5 (den::lev::W) 0).2;have cE:=w0 fun A c w' hA=>rB A (den::lev::W) c w' hA (by simp only[y'];rw[aF.out];have:=J.out;omega) (by
         intro x C;rcases ZBq.1 C with rfl|C;·exact h9 dH Qc
         .rcases ZBq.1 C with rfl|C;·rw[<-aW.out];exact h9 (bX.out.get 0) Qc
          .exact h9 (cG.out x C) Qc);have cU:(den::lev::W).length=2+d:=by simp only[y'];rw[aF.out];omega
        rw[cU]at cE;obtain⟨M,eL⟩:∃M:Int,((gcdL 0 (den::lev::W):Nat):Int)=M:=⟨_,rfl⟩;rw[eL]at bA bR cE;have dI:0<M:=Qa
        have gB:¬M=0:=Qa
        have hK:(M==0)=false:=by simpa using gB
        have cM:IntKind.i64.wrap (den.tdiv M)=den / M:=R7 dI (bR den Qd) dH Qc;have fC:IntKind.i64.wrap (lev.tdiv M)=lev / M:=R7 dI (bR lev Qd) (by rw[<-aW.out];exact bX.out.get 0) Qc;have gL:=w0 fun j (hj:j<d)=>(R7 dI (bR (W.getD j 0) (by
         have cH:j<W.length:=by rw[aF.out];exact hj
         rw[D1,h' cH];exact A5 _ (A5 _ (D2 cH)))) (cG.out.get j) Qc:IntKind.i64.wrap ((W.getD j 0).tdiv M)=W.getD j 0 / M);have cC:=w0 bA;have bW:=w0 fun(x:World)=>(⟨rfl,.inr ⟨x.heap.size,2,#[.int .i64 den,.int .i64 lev],rfl,sW _,ZA _ _ rfl,sW _,Qc,rfl,rfl⟩⟩:(x.alloc (.cells #[den,lev] 3)).ownsRow x.heap.size 3 1 (.slice (some x.heap.size) 2 2) 2 [.int .i64 den,.int .i64 lev]);clear bA bR fP eL cU bZ dN aV cD bB;go_wp2_with (at_builtin;refine X0 _ rfl _ _ 30 rfl wr.heap.size 3 i0 (.int .i64 0) 1 8 underlying30 hi dU dV dW rfl Qc _ _ _ rfl (bW.out wr) ⟨R,0,none⟩ d d (W.map (Value.int .i64)) rfl ?c0 ?c1 ?c2 ?c3 ?c4 ?c5 ?_);case c0=>rw[sA,aF.out,w8]
        case c1=>
         intro j u N;rw[C2]at N;obtain⟨y,hy,rfl⟩:=e'.1 N;have:=(H.out.alloc (.cells #[den,lev] 3)).load hy;have e:Addr.add ⟨R,0,none⟩ j=⟨R,j,none⟩:=by unfold Addr.add;split<;>simp_all
         rw[e];exact this
        case c2=>intro u N;obtain⟨y,-,rfl⟩:=b3.1 N;rfl
        case c3=>have:=J.out;unfold maxLen;omega
        case c4=>have:=J.out;omega
        case c5=>simp
        intro v4 w4 I aQ _;obtain⟨A4,c4,rfl⟩:=Z3 I;have aP:QB wr w4:=ZS (ZC wr _) aQ fun b e=>by cases e;exact sW _
        have cO:=w0 (show At 1 Zc w4 A4 (den::lev::W)from e7 (l:=den::lev::W) I);have dZ:=w0 (H.out.below aP);have eD:=Zx aP aA;have R4:=Zx aP P1;have cP:=via K aP;clear I aQ aP H aA P0 P1 D K aC;go_wp2_with (go_at_call 76;refine(cE.out _ _ _ cO.out).mono ?_;rintro e w5 ⟨rfl,bM⟩);have dC:=w0 (dZ.out.below bM);have eE:=Zx bM eD;have R5:=Zx bM R4;have cQ:=via cP bM;clear dZ eD R4 cP bM cO cE bW;apply WG w2 1 5 9 11 Q (.int .i64 den) (.int .i64 lev) (fun a b=>.cells #[.int .i64 (if a then den / M else den),.int .i64 (if b then lev / M else lev),.slice (some R) d d] 32);case hm=>kernel_rfl
        case hB=>kernel_rfl
        case hB'=>intro g;kernel_rfl
        case hS|hN=>kernel_rfl
        case hne=>decide
        case hkd=>kernel_rfl
        case hw=>exact cQ
        case hb=>exact dY
        case hb0=>exact eE
        case hcl=>
         intro L hc;refine⟨⟨fun h=>?_,fun h=>?_⟩,fun o U h=>?_,fun o U h=>?_⟩;·have h2:=hc 9 _ rfl h;simp[Region.binds]at h2;exact⟨by simp[h2],by simp[h2]⟩
         .have h2:=hc 11 _ rfl h;simp[Region.binds]at h2;exact⟨by simp[h2],by simp[h2]⟩
         .simp at U;subst U;simp[Region.binds]at h;exact⟨by simp[h],by simp[h]⟩
         .simp at U;subst U;simp[Region.binds]at h;exact⟨by simp[h],by simp[h]⟩
        case hq=>
         intro g u N bS bF fV;dsimp only[mixL,yieldsC,l5,n7];simp only[mixL,yieldsC,l5,n7,Nat.reduceAdd,Nat.reduceBEq,m',o7,sS,p',k7,nK,ZyJ,ZyI,r5,Nat.reduceEqDiff];repeat (go_big_quiet_step (fail))
         exact ZyG rfl
        case hp=>intro o U g x C;simp only[p0,B4,M3]at U;subst U;have D:=bk3 C;exact J6 (b:=Q) (off:=0) rfl Qb Qb (by simpa using D.1)
        case hqq=>intro o U g x C;simp only[p0,B4,M3]at U;subst U;have D:=bk3 C;exact J6 (b:=Q) (off:=1) rfl Qb Qb (by simpa using D.2.1)
        case hind=>exact Qx
        case hs1=>intro o U f g x C;simp only[p0,B4,M3]at U;subst U;have D:=bk3 C;exact⟨_,oX (n:=den / M) rfl Qb Qb Qb D.1 (by simp[D]),(OnlyB.refl _ _).set _ _,ZH C _ rfl⟩
        case hs2=>intro o U f g x C;simp only[p0,B4,M3]at U;subst U;have D:=bk3 C;exact⟨_,oX (n:=lev / M) rfl Qb Qb Qb D.2.1 (by simp[D]),(OnlyB.refl _ _).set _ _,ZH C _ rfl⟩
        intro g x hg cR bK;simp only[ZyJ]at bK;have eB:=w0 (show ZN 3 x R W from(hg.block R dC.out.size (by simpa using aY)).trans dC.out);have R6:=b5 hg R5 (by have:=ZG N1;simp;omega);have dG:=cM;obtain⟨d2,dG⟩:=Qu (den / M);obtain⟨l2,eN⟩:=Qu (lev / M);rw[dG,eN]at bK cC;clear hg dC eE R5 cQ cM fC dG eN g;have D:=bk3 bK;go_wp2;go_loopw [151] (fun i wr=>∃k:Nat,k<=d/\i=.int .i64 k/\Hid (ZN 3 wr R ((W.take k).map (· / M)++W.drop k))/\wr.heap[Q]?=some (.cells #[d2,l2,.slice (some R) d d] 32)/\QB w2 wr)(fun i _=>d-(intOf i).toNat);case atStart=>exact⟨0,k2 _,rfl,w0 (by simpa using eB.out),bK,cR⟩
        case round=>
         clear eB bK cR D R6;obtain⟨k,hk,rfl,bC,dE,bP⟩:=hrel;have D:=bk3 dE;have eV:=bC.out.size;have eU:=ZG dE;by_cases aV:k<d
         .have eM:(k:Int)<(d:Int):=Qa
          have dL:k<W.length:=by rw[aF.out];exact aV
          have ci:=bC.out.load (CC (g:=M) dL);have fi:=bC.out.frozen k;have bD:=w0 (bC.out.store k (W.getD k 0 / M));rw[CA dL]at bD;have gN:=gL.out k aV;have gQ:d<=8:=by have:=J.out;omega
          obtain⟨y,hy⟩:=Qu (W.getD k 0);rw[hy]at ci gN bD;clear hy dL;go_wp2;go_roundw;case rel=>
           refine⟨k+1,Qa,Qj,bD.out,ZB dE ?_ _,bP.setCell ?_ _⟩;·exact fun e=>aY e.symm
           .exact dA
          case measure=>exact Qv
         .obtain rfl:d=k:=Qa
          have P1:=Zx bP N1;have bD:=bC.out;rw[show W.take d=W by rw[<-aF.out,x1],show W.drop d=[]by rw[<-aF.out,List.drop_length],q5]at bD;have eI:=via O bP;have C1:=bk3 P1;have dF:R≠w.heap.size+1:=by have:=ZG N1;omega
          clear bC;go_wp2;refine r3 (v:=.tuple #[.agg #[d2,l2,.slice (some R) d d],true]) ?_ rfl ⟨?_,?_⟩;·refine b4 (p:=4) (u:=5) (ad:=⟨w.heap.size+1,0,none⟩) (v:=.agg #[d2,l2,.slice (some R) d d]) rfl Qe (x3 (T:=32) (cs:=[.int .i64 d2,.int .i64 l2,.slice (some R) d d]) Qb Qb ?_);exact ZH (ZH (ZH P1 _ rfl) _ rfl) _ rfl
          .unfold tT;rw[cC.out];exact⟨_,_,rfl,U3 (((bD.other _ _ (fun e=>dF e.symm)).other _ _ (fun e=>dF e.symm)).other _ _ (fun e=>dF e.symm)) (by simp[aF.out]) (by have:=J.out;omega) (h9 O.size dA)⟩
          .exact((eI.setCell Qg _).setCell Qg _).setCell Qg _
variable {w:World} {base n c g:Nat} {e:aN} {xs:hD}
def WU(h:w.ownsRow base e 1 (.slice (some g) n c) n xs) {k:Nat} (a:k<n)(v:Value):(w.setCell ⟨g,k,none⟩ v).ownsRow base e 1 (.slice (some g) n c) n (xs.set k v):=by
 obtain⟨s,i⟩:=h;refine⟨by simpa using s,?_⟩;rcases i with⟨i,-⟩|⟨E,r,f,t,u,y,z,D,m,o⟩;·cases i
 .cases t;refine .inr ⟨g,c,f.setIfInBounds k v,rfl,u,?_,z,D,by simpa using m,?_⟩;·simp only[World.setCell];rw[B0,Zde rfl,y];simp
  .rw[w8]at o |-;rw[<-o];apply aX;intro j;rw[eY,nY,bF,dC,eY,Q3,CU,m];by_cases p:j<n
   .simp only[p,ZyJ];by_cases d:k=j;·subst d;rw[Zde rfl,Zde rfl,Zde Qa,Zde Qa]
    .rw[q' d,q' d,nY]
   .simp only[p,ZyI];rw[q' Qa]
def WV(h:w.ownsRow base e 1 (.slice (some g) n c) n xs)(k:Nat):w.frozen? ⟨g,k,none⟩=false:=by
 rcases h.2 with⟨i,-⟩|⟨p,d,f,m,r,o,s,t,u,y⟩;·cases i
 .cases m;unfold World.frozen?;rw[o];simp
def WW(X:ByteArray)(p s:i')(f l:L')(t H j:Nat)(o a:Int)(w:World)(J:At 1 Zc w p f)(L:At 1 Zc w s l)(i:f.length=j)(Q:l.length=j)(Y:j<=8)(S:ZK 20 f)(D:o.natAbs<=20)(q:ZK 10000000000000000 l)(m:a.natAbs<=10000000000000000):Calls prog 101 #[.agg #[.string X,.slice p j t,o],.agg #[a,.slice s j H]] w (Qt w (decide (dotL f l<=o*a))):=by
 have K:=w0 fun W (N:QB w W)=>(by have:=q9 p s f l t H W (J.below N) (L.below N) Qa Qa 20 10000000000000000 Qc S q;rw[i,Q]at this;exact this:Calls prog 52 #[.slice p j t,.slice s j H] W fun e I=>e=.returned (dotL f l)/\W=I);have R:=g' D m;obtain⟨y,r⟩:=Qu (o*a);rw[r]at R;have V:IntKind.i64.wrap (o*a)=y:=by rw[r];exact B3 _ Qa
 rw[r];obtain⟨d,O⟩:=Qu (dotL f l);rw[O]at K |-;clear r O R J L i Q S q;go_enter func101,ntmps101;go_wp2;obtain⟨U,Z⟩:∃U,U=w:=⟨_,rfl⟩;refine c8 w Qb Qb Qi ?_;intro z h;repeat (go_big_quiet_step ((go_at_call 52;with_reducible exact Zd (K.out _ (h.out _)))))
 refine ZyG ?_;intro B u G E;clear z h;go_wp2;go_ret;exact⟨rfl,by assumption⟩
variable {n k np:Nat} {es:e6} {l:L'} {den:Int}
def DF(h:k<n):(List.replicate k (1:Int)++List.replicate (n-k) 0).set k 1=List.replicate (k+1) 1++List.replicate (n-(k+1)) 0:=by obtain⟨r,d⟩:∃r,n-k=r+1:=⟨n-k-1,Qa⟩;rw[d,show n-(k+1)=r by omega,iA _ _ Qd,xD,kW,E9,List.replicate_succ' (n:=k)];simp
def KG{i:Nat} (h:i<n):(List.replicate n (0:Int)).set i 1=hH n i:=by
 apply aX;intro j;rw[dC];unfold hH;rw[C2];by_cases f:j<n
 .rw[dF f];by_cases d:i=j;·subst d;simp[h]
  .have:¬j=i:=fun e=>d e.symm;simp[d,this,gH,f]
 .rw[cN Qk];have:i≠j:=Qa
  simp[this,f]
def xJ(h:RightE es np)(z t:y0):gW (hV np (exs es) z t):=by
 intro s m;simp only[hV,ZBq,C1,b3]at m;rcases m with rfl|⟨i,-,rfl⟩|⟨i,-,rfl⟩;·intro x d;rw[F1 d];decide
 .intro x d;obtain⟨j,-,rfl⟩:=b3.1 d;split<;>decide
 .intro x d;have r:=rU h i;have f:((exs es).getD i default).2.natAbs<=20:=by rw[D1];cases p:(exs es)[i]? with|none=>simp[default,instInhabitedProd]|some x=>exact h.exs_mo x (k3 p)
  rcases C1.1 d with d|d;·obtain⟨c,o⟩:=r2.1 d;have:=r c;rw[D1,o]at this;exact h9 this Qc
  .rw[y2]at d;subst d;exact h9 f Qc
def rV(np:Nat)(es:aF)(z t:y0):(hV np es z t).length=z.length+t.length+1:=by simp[hV]
def WX(h:RightE es np) {z t:y0} (o:∀i∈t,i<es.length):∀row∈hV np (exs es) z t,row.length=np+1:=by
 intro row f;simp only[hV,ZBq,C1,b3]at f;rcases f with rfl|⟨i,-,rfl⟩|⟨i,m,rfl⟩;·simp
 .simp[hH]
 .have d:=o i m;rw[hK,W9 (h' d),(h.co _ (D2 d)).1];rfl
def WY(a:k<l.length)(h:l.getD k 0<0):l.any (·<0)=true:=by rw[h0];refine⟨l[k],D2 a,?_⟩;rw[D1,h' a]at h;simpa using h
def WZ(h:∀k,k<l.length->¬l.getD k 0<0):l.any (·<0)=false:=by rw[bY];intro x f;obtain⟨k,d,rfl⟩:=gJ f;have:=h k d;rw[D1,h' d]at this;simpa using this
def W1{es:aF} (a:k<es.length)(h:¬dotL (es.getD k default).1 l<=(es.getD k default).2*den):es.any (fun x=>!decide (dotL x.1 l<=x.2*den))=true:=by rw[h0];refine⟨es[k],D2 a,?_⟩;rw[D1,h' a]at h;simpa using h
def W3{es:aF} (h:∀k,k<es.length->dotL (es.getD k default).1 l<=(es.getD k default).2*den):es.any (fun x=>!decide (dotL x.1 l<=x.2*den))=false:=by rw[bY];intro x f;obtain⟨k,d,rfl⟩:=gJ f;have:=h k d;rw[D1,h' d]at this;simpa using this
def RowsOwn.one{W:World} {base B:Nat} (h:ZN 3 W B l)(j:base<=B)(i:l.length=n):RowsOwn (W.alloc (.cells #[.slice (some B) n n] 30)) base (.slice (some W.heap.size) 1 1) [⟨some ⟨B,0,none⟩,n,l⟩]:=by
 have m:=h.size;refine⟨⟨rfl,.inr ⟨W.heap.size,1,_,rfl,Qa,ZA _ _ rfl,sW _,Qc,rfl,?_⟩⟩,fun x d=>?_⟩;·simp[i]
 .rw[y2]at d;subst d;refine⟨(h.alloc _).at',fun g f=>?_⟩;cases f;refine⟨j,Qk,fun e=>?_⟩;cases e;exact X3 _ m
def tU(q:Option (List Int×Int))(np f:Nat)(e:Ending)(a:World):Prop:=match q with|none=>e=.returned (.tuple #[.agg #[(0:Int),.slice none 0 0],false])|some (m,d)=>∃A c,e=.returned (.tuple #[.agg #[d,.slice A np c],true])/\a.ownsRow f 3 1 (.slice A np c) np (m.map (Value.int .i64))
def _root_.Qy{P:Prop}(h:P:=by intro a b;simp only[ZBq,ZBH,ZyH]at b;rcases b with rfl|rfl|rfl|rfl|rfl|rfl<;>(intro c d;kernel_rfl)):P:=h
def W4(pA eA zA tA:i')(np pc M ec zn zc tn tc:Nat)(es:e6)(z t:y0)(w:World)(hR:RightE es np)(hE:h7 w eA es)(eG:es.length=M)(hZ:At 1 Zc w zA (ZO z))(eU:z.length=zn)(hT:At 1 Zc w tA (ZO t))(eR:t.length=tn)(h5:np<=5)(hz:∀i∈z,i<np)(ht:∀i∈t,i<M)(eV:z.length+t.length+1=np):Calls prog 80 #[.agg (Z5 (.slice pA np pc) (.slice eA M ec) (.slice zA zn zc) (.slice tA tn tc) z t).toArray] w fun e w'=>tU (A6 np (exs es) z t) np w.heap.size e w'/\QB w w':=by
 obtain⟨BA,bO⟩:=Qu ((Z5 (.slice pA np pc) (.slice eA M ec) (.slice zA zn zc) (.slice tA tn tc) z t).toArray);have fX:=hR.n8;have fZ:=w0 fun W (hb:QB w W) k (hk:k<zn)=>D9 (hZ.below hb) (k:=k) (by rw[x7];omega);have fT:=w0 fun W (hb:QB w W) k (hk:k<tn)=>D9 (hT.below hb) (k:=k) (by rw[x7];omega);have fE:=w0 fun W (hb:QB w W) i (hi:i<M)=>(by
  have bV:i<es.length:=Qa
  obtain⟨b,o,hA,fC,dA⟩:=(hE.below hb).1 i _ (h' bV);have hx:=D2 bV;obtain⟨R,h2,h3⟩:=hR.co _ hx;refine⟨es[i],b,o,hA,fC,R,h2,h3,?_,?_,dA 2 _ rfl,(hE.below hb).2 _ hx,W9 (h' bV),h' bV⟩;·simpa using dA 0 _ rfl
  .have:=dA 1 _ rfl;rw[R]at this;exact this:∃x:En,∃b o,eA=some ⟨b,o,none⟩/\b<W.heap.size/\x.co.length=np/\ZK 20 x.co/\x.mo.natAbs<=20/\W.cell? ⟨b,o+i*3,none⟩=some (.string x.nm)/\W.cell? ⟨b,o+i*3+1,none⟩=some (.slice x.A np x.c)/\W.cell? ⟨b,o+i*3+2,none⟩=some (.int .i64 x.mo)/\At 1 Zc W x.A x.co/\(exs es).getD i default=(x.co,x.mo)/\es[i]?=some x);have dE:=BD (np+1) Qa;obtain⟨m,bR⟩:=Qu (np+1);rw[bR]at dE;have dI:IntKind.i64.wrap ((np:Int)+1)=(m:Int):=by rw[<-bR];exact B3 _ Qa
 have gA:m<=6:=Qa
 have cE:=w0 bR;have cW:=w0 hR;have aZ:=w0 eG;have aN:=w0 eU;have bH:=w0 eR;have fK:=w0 hz;have eQ:=w0 ht;have aO:=w0 eV;have dM:=w0 bO;have gO:zn<=4:=Qa
 have fP:M<=8:=Qa
 have gN:tn<=4:=Qa
 rw[bO];obtain⟨i0,hi,dJ,dK,dL⟩:=n9 info3;obtain⟨i1,hj,eJ,eK,bB⟩:=n9 info31;obtain⟨X,hX⟩:=Qu (exs es);have aU:=w0 hX;rw[hX]at fE |-;have fY:0<m:=Qa
 have dZ:BA[0]?=some (.slice pA np pc):=by rw[<-bO];rfl
 clear hR hE eG eU eR hz ht eV bO hZ hT hX bR;have c0:=w0 fun(W:World)(h:W.heap[w.heap.size]?=some (.cells BA 136))=>(by
  have NB:W.heap[w.heap.size]?=some (.cells (Z5 (.slice pA np pc) (.slice eA M ec) (.slice zA zn zc) (.slice tA tn tc) z t).toArray 136 (0,0)):=by rw[dM.out];exact h
  exact⟨M4 NB (k:=0) rfl,M4 NB (k:=1) rfl,M4 NB (k:=2) rfl,M4 NB (k:=3) rfl,ZG h⟩:W.cell? w.heap.size=some (.slice pA np pc)/\W.cell? ⟨w.heap.size,1,none⟩=some (.slice eA M ec)/\W.cell? ⟨w.heap.size,2,none⟩=some (.slice zA zn zc)/\W.cell? ⟨w.heap.size,3,none⟩=some (.slice tA tn tc)/\w.heap.size<W.heap.size);go_enter func80,ntmps80;go_wp2;clear dZ;go_loopw [33] (fun i wr=>∃k:Nat,k<=m/\i=.int .i64 k/\Hid (ZN 3 wr (w.heap.size+2) (List.replicate k 1++List.replicate (m-k) 0))/\wr.heap[w.heap.size]?=some (.cells BA 136)/\wr.heap[w.heap.size+1]?=some (.cells #[(0:Int),.slice none 0 0] 57)/\QB w wr) (fun i _=>m-(intOf i).toNat);case atStart=>
  refine⟨0,k2 _,rfl,?_,?_,?_,?_⟩;·have:=ZN.new (T:=3) ((w.alloc (.cells BA 136)).alloc (.cells #[(0:Int),.slice none 0 0] 57)) (List.replicate m 0);simp only[hJ]at this;exact w0 (by simpa using this)
  .exact Qs
  .exact Qs
  .go_grown
 case round=>
  obtain⟨k,hk,rfl,hI,a,B,E⟩:=hrel;have fD:=hI.out.size;by_cases s:k<m
  .have bC:(k:Int)<(m:Int):=Qa
   have ci:=hI.out.loadD (k:=k) Qk;have fi:=hI.out.frozen k;have aQ:=w0 (hI.out.store k 1);rw[DF s]at aQ;clear dE;go_wp2;go_roundw;case rel=>exact⟨k+1,Qa,Qj,aQ.out,ZB a Qg _,ZB B Qg _,E.setCell Qg _⟩
   case measure=>exact Qv
  .obtain rfl:m=k:=Qa
   have dP:=w0 (show ZN 3 wr (w.heap.size+2) (List.replicate m 1)by simpa using hI.out);obtain⟨d0,d1,d2,d3,d4⟩:=c0.out _ a;clear hI s;go_wp2;clear d0 d1 d2 d3 d4;go_loopw [7,45] (fun v7 i wr=>∃(k:Nat)(xs:List IR),k<=zn/\i=.int .i64 k/\Hid (RowsOwn wr (w.heap.size+2) v7 xs/\xs.map IR.l=List.replicate m 1::(z.take k).map (hH m))/\wr.heap[w.heap.size]?=some (.cells BA 136)/\wr.heap[w.heap.size+1]?=some (.cells #[(0:Int),.slice none 0 0] 57)/\QB w wr)(fun _ i _=>zn-(intOf i).toNat);case atStart=>exact⟨0,_,k2 _,rfl,w0 ⟨RowsOwn.one dP.out (sW _) Qd,Qd⟩,Zz a _,Zz B _,via E (ZC _ _)⟩
   case round=>
    clear dP a B E fD;obtain⟨k,xs,hk,rfl,f,a,B,E⟩:=hrel;have s0:=ZG a;have s1:=ZG B;by_cases s:k<zn
    .have bC:(k:Int)<(zn:Int):=Qa
     obtain⟨bz,oz,rfl,gE,cz⟩:=fZ.out wr E k s;obtain⟨i,Z⟩:∃i,z[k]?=some i:=⟨_,h' (by rw[aN.out];exact s)⟩;have bA:(ZO z).getD k 0=(i:Int):=by rw[D1,RP Z];rfl
     rw[bA]at cz;have dB:=fK.out i (k3 Z);have fB:(i:Int)<(m:Int):=by have:=cE.out;omega
     have bY:=w0 (show (z.take (k+1)).map (hH m)=(z.take k).map (hH m)++[hH m i]by rw[w9,Z];simp);have cC:=w0 (show xs.length=k+1 by have R:=w6 List.length f.out.2;rw[sA]at R;simp only[y',sA,Q3]at R;rw[aN.out]at R;omega);have bQ:=w0 (ZN.new (T:=3) wr (List.replicate m 0));have ci:=bQ.out.loadD (k:=i) Qk;have fi:=bQ.out.frozen i;have aQ:=w0 (bQ.out.store i 1);rw[KG Qa]at aQ;obtain⟨A7,c7,rfl⟩:=Z3 f.out.1.own;have U:Below wr.heap.size wr (wr.alloc (.cells ((D3 (List.replicate m 0)).setIfInBounds i (.int .i64 1)) 3)):=ZC wr _;have aQ:=w0 (show ZN 3 (wr.alloc (.cells ((D3 (List.replicate m 0)).setIfInBounds i (.int .i64 1)) 3)) wr.heap.size (hH m i)by rw[kM,KG Qa];exact ZN.new wr _);have S:=w0 (f.out.1.below U);have bF:=w0 f.out.2;have eP:=w0 (show some wr.heap.size≠(Value.slice A7 xs.length c7).ownBlock from fun e=>X3 _ (f.out.1.own.lt _ e.symm).2);have Q0:=w0 (Zx U a);have Q1:=w0 (Zx U B);have aF:=w0 (via E U);clear bA Z bQ f E U a B;go_wp2_with (at_builtin;refine r9 _ rfl _ _ 160 rfl (w.heap.size+2) 30 i1 (.slice none 0 0) 1 24 underlying160 hj eJ eK bB rfl Qc _ _ _ rfl (S.out.own.alloc _) ⟨wr.heap.size+1,0,none⟩ 1 1 [.slice (some wr.heap.size) m m] rfl rfl ?c1 ?c2 Qc ?c3 ?c4 ?c5 (wr.heap.size+1+1) ?c6 ?_);case c1=>exact D7 _ [.slice (some wr.heap.size) m m] _ Qd
     case c2=>intro u hu;simp at hu;subst hu;rfl
     case c3=>have:=cC.out;unfold maxLen;omega
     case c4=>have:=cC.out;omega
     case c5=>have:=aF.out.size;simp at this;simp;omega
     case c6=>simp
     intro g fW w4 I aG cM fR;have dY:=w0 (RowsOwn.push (x:=⟨some ⟨wr.heap.size,0,none⟩,m,hH m i⟩) S.out (ZC _ _) rfl ((aQ.out.at').below (ZC _ _)) Qg Qk eP.out aG (by show w4.ownsRow _ 30 1 _ _ (_++[Value.slice (some wr.heap.size) (hH m i).length m]);rw[show (hH m i).length=m by simp[hH]];exact I) (by simpa using cM));have eB:QB w w4:=ZS (via aF.out (ZC _ _)) aG fun b e=>by have:=(S.out.own.lt b e).1;omega
     have R0:=b5 aG (Zz Q0.out _) (P3 S.out.own Qa);have C:=b5 aG (Zz Q1.out _) (P3 S.out.own Qa);have K:=w0 (show (xs++[(⟨some ⟨wr.heap.size,0,none⟩,m,hH m i⟩:IR)]).map IR.l=List.replicate m 1::(z.take (k+1)).map (hH m)from by rw[x0,bF.out,bY.out];rfl);clear I aG cM S bF Q0 Q1;go_wp2;go_roundw;case rel=>exact⟨k+1,_,Qa,Qj,⟨dY.out,K.out⟩,R0,C,eB⟩
     case measure=>exact Qv
    .obtain rfl:zn=k:=Qa
     have aC:z.take zn=z:=by rw[<-aN.out,x1]
     rw[aC]at f;obtain⟨d0,d1,d2,d3,d4⟩:=c0.out _ a;clear s dE dI aC;go_wp2;clear d0 d1 d2 d3 d4;go_loopw [7,63] (fun v7 i wr=>∃(k:Nat)(xs:List IR),k<=tn/\i=.int .i64 k/\Hid (RowsOwn wr (w.heap.size+2) v7 xs/\xs.map IR.l=List.replicate m 1::(z.map (hH m)++(t.take k).map fun i=>(X.getD i default).1++[(X.getD i default).2]))/\wr.heap[w.heap.size]?=some (.cells BA 136)/\wr.heap[w.heap.size+1]?=some (.cells #[(0:Int),.slice none 0 0] 57)/\QB w wr)(fun _ i _=>tn-(intOf i).toNat);case atStart=>exact⟨0,xs,k2 _,rfl,w0 ⟨f.out.1,by rw[f.out.2];simp⟩,a,B,E⟩
     case round=>
      clear f a B E s0 s1;obtain⟨k,xs,hk,rfl,f,a,B,E⟩:=hrel;have s0:=ZG a;have s1:=ZG B;by_cases s:k<tn
      .have bC:(k:Int)<(tn:Int):=Qa
       obtain⟨bt,ot,rfl,gC,ct⟩:=fT.out wr E k s;obtain⟨i,Z⟩:∃i,t[k]?=some i:=⟨_,h' (by rw[bH.out];exact s)⟩;have bA:(ZO t).getD k 0=(i:Int):=by rw[D1,RP Z];rfl
       rw[bA]at ct;have dB:=eQ.out i (k3 Z);have fB:(i:Int)<(M:Int):=Qa
       obtain⟨x,be,oe,rfl,eY,aB,cD,cA,e0,e1,e2,bI,bK,bJ⟩:=fE.out wr E i dB;have bY:=w0 (show (t.take (k+1)).map (fun i=>(X.getD i default).1++[(X.getD i default).2])=(t.take k).map (fun i=>(X.getD i default).1++[(X.getD i default).2])++[x.co++[x.mo]]by rw[w9,Z,x0,Option.toList_some,M1,N1,bK]);have cC:=w0 (show xs.length<=20 by have R:=w6 List.length f.out.2;rw[sA]at R;simp only[y',hK,sA,Q3]at R;rw[aN.out,bH.out]at R;omega);obtain⟨d0,d1,d2,d3,d4⟩:=c0.out _ a;obtain⟨A7,c7,rfl⟩:=Z3 f.out.1.own;have bF:=w0 f.out.2;have S:=w0 f.out.1;have cO:=w0 bI;have bL:=w0 aB;clear bA Z f aB cD cA bI bK;have bJ:=w0 bJ;have fJ:0<np:=by have:=aO.out;omega
       go_wp2;refine k4 ?_;intro W6 cX;have aS:Below wr.heap.size wr W6:=by rw[cX];exact ZC _ _
       have H6:W6.heap[wr.heap.size]?=some (.cells #[.string x.nm,.slice x.A np x.c,x.mo] 49):=by rw[cX];exact ZA _ _ rfl
       have aT:=w0 (S.out.below aS);have Q0:=Zx aS a;have Q1:=Zx aS B;have Y:=via E aS;have fF:wr.heap.size<W6.heap.size:=ZG H6;have bZ:=w0 (show ∀r,(Value.slice A7 xs.length c7).ownBlock=some r->w.heap.size+2<=r/\r<wr.heap.size from fun r e=>S.out.own.lt r e);have fV:=w0 (cO.out.below aS);have eL:=w0 fun(u:World)(hu:Z4 w W6 (.slice A7 xs.length c7) u)=>(hu.2.2 _ fF (fun e=>X3 _ (bZ.out _ e.symm).2)).trans H6;have cP:=w0 fun(u:World)(hu:Z4 w W6 (.slice A7 xs.length c7) u)=>(by obtain⟨x',b',o',e1,-,e2,-,-,-,-,-,e3,-,e4⟩:=fE.out u hu.1 i dB;have cQ:=bJ.out;rw[e4]at cQ;cases cQ;exact e3:At 1 Zc u x.A x.co);clear cX aS S a B E cO d0 d1 d2 d3 d4 e0 e1 e2 ct;refine p5 Qb ?_;refine v8 11 _ rfl rfl Qb Qb Qb Qb ?_;simp only[sT,j0];apply WH w 1 4 7 8 9 10 np xs.length 3 (x.co.map (Value.int .i64)) [.int .i64 x.mo] (.cells #[] 3) (.cells #[x.mo] 3) (fun h=>.cells #[.slice h.a1 (np+1) h.c1] 30) (fun h=>[.slice h.a1 (np+1) h.c1]) (w.heap.size+2) 30 (.slice A7 xs.length c7) (xs.map fun x=>.slice x.A x.l.length x.c);case hB=>kernel_rfl
       case hB'=>intro g;kernel_rfl
       case hS|hN=>kernel_rfl
       case hne=>decide
       case hd1=>
        intro L hc;refine⟨fun o H h=>?_,fun o H h=>?_,fun o H h=>?_⟩;·simp at H;subst H;simp[Region.binds]at h;exact⟨by simp[h],by simp[h]⟩
        .simp at H;subst H;simp[Region.binds]at h;simp[h]
        .simp at H;subst H;simp[Region.binds]at h;simp[h]
       case hw=>exact Y
       case hv0=>intro r e;have:=(bZ.out r e).1;omega
       case hown=>exact aT.out.own
       case hal0=>intro o H g y;simp only[p0,B4,M3]at H;subst H;kernel_rfl
       case hal1=>intro o H g y;simp only[p0,B4,M3]at H;subst H;kernel_rfl
       case hal2=>intro o H g y;simp only[p0,B4,M3]at H;subst H;kernel_rfl
       case hcl=>intro o H g y q;simp only[p0,B4,M3]at H;subst H;exact WI (P:=prog) (A:=x.A) (l:=x.co) (n:=np) (b:=(g 1).b) (c:=x.c) (.tmp 74) (.tmp 76) 30 3 i0 (.int .i64 0) 8 W6.heap.size bL.out Qe Qb Qb underlying30 hi dJ dK dL Qe Qc (cP.out y q) (by rw[bL.out];exact fJ) (by rw[bL.out];omega) q.2.1
       case hq=>
        intro g u hu gK gD gB;have D6:=bk3 (eL.out u hu);dsimp only[mixL,yieldsC,l5,n7];simp only[mixL,mkR6,yieldsC,l5,n7,Nat.reduceAdd,Nat.reduceBEq,m',o7,sS,p',k7,nK,ZyJ,ZyI,r5,Nat.reduceEqDiff];repeat (go_big_quiet_step (fail))
        exact ZyG rfl
       case hap1=>intro o H g y q R h2;simp only[p0,B4,M3]at H;subst H;refine Exists.imp (fun v' h=>Exists.imp (fun x' h=>⟨h.1,h.2.1,h.2.2.1⟩) h) (J7 (P:=prog) (b:=(g 7).b) (v:=.slice (g 4).a1 np (g 4).c1) (u:=.int .i64 x.mo) (tb:=3) (.tmp 77) (.tmp 80) 30 3 i0 (.int .i64 0) 8 W6.heap.size np (x.co.map (Value.int .i64)) Qe Qb Qb underlying30 hi dJ dK dL Qe Qc R h2 rfl Qa q.2.1)
       case hap2=>intro o H g y q R h2;simp only[p0,B4,M3]at H;subst H;exact J7 (P:=prog) (.tmp 73) (.tmp 82) 160 30 i1 (.slice none 0 0) _ 24 _ _ _ _ _ _ rfl Qb Qb underlying160 hj eJ eK bB rfl Qc R h2 rfl (by have:=cC.out;omega) (by have:=Y.size;have:=q.2.1;omega)
       case hind=>exact Qy
       intro g y q R h2 h3;have cG:=w0 (aT.out.row6 (l:=x.co++[x.mo]) (by have:=Y.size;omega) q (by rw[x0];exact R) Qa h2 h3);have R0:=(q.2.2 _ Qa (fun e=>by have:=(bZ.out _ e.symm).1;omega)).trans Q0;have C:=(q.2.2 _ Qa (fun e=>by have:=(bZ.out _ e.symm).1;omega)).trans Q1;have eC:=q.1;have K:=w0 (show (xs++[(⟨(g 8).a1,(g 8).c1,x.co++[x.mo]⟩:IR)]).map IR.l=List.replicate m 1::(z.map (hH m)++(t.take (k+1)).map fun i=>(X.getD i default).1++[(X.getD i default).2])from by rw[x0,bF.out,bY.out];simp);obtain⟨A8,hA8⟩:=Qu ((g 10).a1);obtain⟨c8,eD⟩:=Qu ((g 10).c1);rw[hA8,eD]at cG;rw[hA8,eD];clear q R h2 h3 bY bF eL cP Q0 Q1 aT;dsimp only;go_wp2;go_roundw;case rel=>exact⟨k+1,_,Qa,Qj,⟨cG.out,K.out⟩,R0,C,eC⟩
       case measure=>exact Qv
      .obtain rfl:tn=k:=Qa
       have aC:t.take tn=t:=by rw[<-bH.out,x1]
       obtain⟨dG,K⟩:=f.out;rw[aC]at K;have aJ:xs.map IR.l=hV np X z t:=by rw[K,<-cE.out];rfl
       have aB:xs.length=np:=by have R:=w6 List.length aJ;rw[sA,rV]at R;have:=aO.out;omega
       obtain⟨A7,c7,rfl⟩:=Z3 dG.own;have gL:1<=np:=by have:=aO.out;omega
       have hS:=w0 (BZ A7 xs c7 wr dG.rowsAt (fun x hx=>by have:=WX (z:=z) (t:=t) cW.out (fun i hi=>by rw[aZ.out];exact eQ.out i hi) x.l (by rw[aU.out,<-aJ];exact b3.2 ⟨x,hx,rfl⟩);omega) Qa Qa (by rw[aJ,<-aU.out];exact xJ cW.out z t));rw[aJ]at hS;rw[aB]at hS |-;have bX:=w0 (show (hV np X z t).length<=5/\gW (hV np X z t)/\(hV np X z t).length=np from⟨by rw[<-aJ,sA];omega,by rw[<-aU.out];exact xJ cW.out z t,by rw[<-aJ,sA];exact aB⟩);obtain⟨sl,dH⟩:=Qu (C0 (hV np X z t));have aH:=w0 dH;unfold mO at hS;rw[dH]at hS;clear dH dG f aC s aB K aJ;rcases sl with _|⟨l,den⟩
       .dsimp only at hS;have N:=w0 (show A6 np X z t=none by unfold A6;rw[aH.out]);go_wp2_with (go_at_call 100;refine hS.out.mono ?_;rintro e w2 ⟨rfl,aE⟩;have m:=Zx aE B;have C1:=bk2 m;have aX:=via E aE);refine r3 (v:=.tuple #[.agg #[(0:Int),.slice none 0 0],false]) ?_ rfl ⟨?_,?_⟩;·refine b4 (p:=2) (u:=3) (ad:=⟨w.heap.size+1,0,none⟩) (v:=.agg #[(0:Int),.slice none 0 0]) rfl Qe (x3 (T:=57) (cs:=[.int .i64 0,.slice none 0 0]) Qb Qb ?_);exact ZH (ZH (m) _ rfl) _ rfl
        .unfold tU;rw[N.out]
        .first|go_grown|(repeat' (first|assumption|refine mR ?_ Qg _))
       .dsimp only at hS;obtain⟨bW,eF,gF,eM⟩:=rF aH.out bX.out.1 bX.out.2.1;rw[bX.out.2.2]at bW;rw[bW]at hS;have G:=w0 bW;have bE:=w0 eM;clear eM bW bX;go_wp2_with (go_at_call 100;refine hS.out.mono ?_;rintro e w2 ⟨⟨v,rfl,hown⟩,aE⟩;obtain⟨aP,J,rfl⟩:=Z3 hown;have m:=Zx aE B;have C1:=bk2 m;have aX:=via E aE;have N0:=Zx aE a;have aK:=w0 hown;clear hown);refine k4 ?_;intro W8 cY;have aV:Below w2.heap.size w2 W8:=by rw[cY];exact ZC _ _
        have cU:W8.heap[w2.heap.size]?=some (.cells #[den,.slice aP np J] 57):=by rw[cY];exact ZA _ _ rfl
        have aA:=w0 (ZI aK.out aV);have P0:=Zx aV N0;have P1:=Zx aV m;have aY:=via aX aV;obtain⟨Q,hQ⟩:=Qu w2.heap.size;have dW:=w0 (show ∀r,(Value.slice aP np J).ownBlock=some r->wr.heap.size<=r/\r<Q from fun r e=>by rw[<-hQ];exact aK.out.lt r e);have fG:=w0 (show wr.heap.size<=Q by rw[<-hQ];exact aE.size);rw[hQ]at cU |-;have hcl:=w0 fun(W:World)(H:W.ownsRow wr.heap.size 3 1 (.slice aP np J) np (l.map (Value.int .i64))) k (hk:k<np)=>(by
         obtain⟨g,R,h2,h3,h4⟩:=X5 H (k:=k) (u:=.int .i64 (l.getD k 0)) (by
          have:k<l.length:=by rw[G.out];exact hk
          rw[C2,D1,h' this];rfl);exact⟨g,R,h3,h4⟩:∃g,aP=some ⟨g,0,none⟩/\g<W.heap.size/\W.cell? ⟨g,k,none⟩=some (.int .i64 (l.getD k 0)));have dO:w.heap.size+2<=wr.heap.size:=Qa
        obtain⟨Bs,dN⟩:=Qu wr.heap.size;rw[dN]at aA dW fG hcl dO;clear cY aK a B N0 m C1 E aX aV aE hS hQ dN;go_loopw [99] (fun i fM=>∃k:Nat,k<=np/\i=.int .i64 k/\Hid (∀j,j<k->¬l.getD j 0<0)/\W8=fM)(fun i _=>np-(intOf i).toNat);case atStart=>exact⟨0,k2 _,rfl,fun j hj=>Qa,rfl⟩
        case round=>
         obtain⟨k,hk,rfl,dF,rfl⟩:=hrel;by_cases s:k<np
         .have bC:(k:Int)<(np:Int):=Qa
          obtain⟨g,rfl,hg,cl⟩:=hcl.out W8 aA.out k s;obtain⟨x,hx⟩:=Qu (l.getD k 0);rw[hx]at cl;have eS:=w0 hx;clear hx;by_cases eT:x<0
          .have N:=w0 (show A6 np X z t=none by unfold A6;rw[aH.out];simp only;rw[Zde (WY (k:=k) (by rw[G.out];exact s) (by rw[eS.out];exact eT))]);have C1:=bk2 P1;go_wp2;refine r3 (v:=.tuple #[.agg #[(0:Int),.slice none 0 0],false]) ?_ rfl ⟨?_,?_⟩;·refine b4 (p:=2) (u:=3) (ad:=⟨w.heap.size+1,0,none⟩) (v:=.agg #[(0:Int),.slice none 0 0]) rfl Qe (x3 (T:=57) (cs:=[.int .i64 0,.slice none 0 0]) Qb Qb ?_);exact ZH (ZH (P1) _ rfl) _ rfl
           .unfold tU;rw[N.out]
           .first|go_grown|(repeat' (first|assumption|refine mR ?_ Qg _))
          .go_wp2;go_roundw;case rel=>exact⟨k+1,Qa,Qj,(fun j hj=>by
            by_cases dC:j=k;·rw[dC,eS.out];exact eT
            .exact dF.out j Qa),Qr⟩
           case measure=>exact Qv
         .obtain rfl:np=k:=Qa
          obtain⟨d0,d1,d2,d3,d4⟩:=c0.out _ P0;have cL:=w0 (show l.any (·<0)=false from WZ fun k hk=>dF.out k (by rw[G.out]at hk;exact hk));clear dF s;go_wp2;clear d0 d1 d2 d3 d4;go_loopw [111] (fun i eW=>∃k:Nat,k<=M/\i=.int .i64 k/\Hid (∀j,j<k->dotL (X.getD j default).1 l<=(X.getD j default).2*den)/\eW.heap[Q]?=some (.cells #[den,.slice aP np J] 57)/\QB W8 eW)(fun i _=>M-(intOf i).toNat);case atStart=>exact⟨0,k2 _,rfl,fun j hj=>Qa,cU,l3 _ _⟩
          case round=>
           clear cU;obtain⟨k,hk,rfl,bG,bT,aI⟩:=hrel;have aL:=via aY aI;have O:=w0 (ZI aA.out aI);by_cases s:k<M
           .have bC:(k:Int)<(M:Int):=Qa
            obtain⟨x,be,oe,rfl,eY,aB,cD,cA,e0,e1,e2,bI,bK,bJ⟩:=fE.out wr aL k s;have cT:=w0 fun W (hb:Below wr.heap.size wr W)=>WW x.nm x.A aP x.co l x.c J np x.mo den W (bI.below hb) (e7 (ZI O.out hb)) aB G.out Qa cD cA (fun y q=>h9 (bE.out y q) Qc) Qa;have cR:=w0 bK;obtain⟨d,hd⟩:=Qu (decide (dotL x.co l<=x.mo*den));rw[hd]at cT;have eE:=w0 hd;have cV:=Zz bT (.cells #[.string x.nm,.slice x.A np x.c,x.mo] 49);have D:=bk2 cV;have gM:=ZG bT;clear hd bI aB cD cA bK bJ;cases d with
            |false=>
             have N:=w0 (show A6 np X z t=none by unfold A6;rw[aH.out];simp only;rw[q' (by rw[cL.out];decide),Zde (W1 (k:=k) (by rw[<-aU.out,Z7,aZ.out];exact s) (by rw[cR.out];exact of_decide_eq_false eE.out))]);go_wp2_with (go_at_call 101;refine(cT.out _ (ZC _ _)).mono ?_;rintro e fL ⟨rfl,aD⟩;have cF:=Zx aD cV;have V:=via (ZC wr (.cells #[.string x.nm,.slice x.A np x.c,x.mo] 49)) aD;have C:=Zx V (Zx aI P1);have C1:=bk2 C;have cZ:=via aL V);refine r3 (v:=.tuple #[.agg #[(0:Int),.slice none 0 0],false]) ?_ rfl ⟨?_,?_⟩;·refine b4 (p:=2) (u:=3) (ad:=⟨w.heap.size+1,0,none⟩) (v:=.agg #[(0:Int),.slice none 0 0]) rfl Qe (x3 (T:=57) (cs:=[.int .i64 0,.slice none 0 0]) Qb Qb ?_);exact ZH (ZH (C) _ rfl) _ rfl
             .unfold tU;rw[N.out]
             .first|go_grown|(repeat' (first|assumption|refine mR ?_ Qg _))
            |true=>
             go_wp2_with (go_at_call 101;refine(cT.out _ (ZC _ _)).mono ?_;rintro e fL ⟨rfl,aD⟩;have cF:=Zx aD cV;have V:=via (ZC wr (.cells #[.string x.nm,.slice x.A np x.c,x.mo] 49)) aD;have C:=Zx V (Zx aI P1);have C1:=bk2 C;have cZ:=via aL V);go_roundw;case rel=>exact⟨k+1,Qa,Qj,(fun j hj=>by
              by_cases dC:j=k;·rw[dC,cR.out];exact of_decide_eq_true eE.out
              .exact bG.out j Qa),cF,via aI V⟩
             case measure=>exact Qv
           .obtain rfl:M=k:=Qa
            have bM:A6 np X z t=some (l.map (· / (gcdL 0 (den::l):Int)),den / (gcdL 0 (den::l):Int)):=by unfold A6;rw[aH.out];simp only;rw[q' (by rw[cL.out];decide),q' (by rw[W3 fun j hj=>bG.out j (by rw[<-aU.out,Z7,aZ.out]at hj;exact hj)];decide)]
            have bU:=(D5 (den::l) 0).2;have eX:0<gcdL 0 (den::l):=s4 den Qd Qa;have bP:=w0 fun A c w' hA=>rB A (den::l) c w' hA (by simp only[y'];rw[G.out];omega) (by
             intro x hx;rcases ZBq.1 hx with rfl|hx;·exact h9 eF Qc
             .exact h9 (bE.out x hx) Qc);have cJ:(den::l).length=1+np:=by simp only[y'];rw[G.out];omega
            rw[cJ]at bP;obtain⟨F,eI⟩:∃F:Int,((gcdL 0 (den::l):Nat):Int)=F:=⟨_,rfl⟩;rw[eI]at bM bU bP;have eH:0<F:=Qa
            have fA:¬F=0:=Qa
            have gJ:(F==0)=false:=by simpa using fA
            have dI:IntKind.i64.wrap (den.tdiv F)=den / F:=R7 eH (bU den Qd) eF Qc;have fH:=w0 fun j (hj:j<np)=>(R7 eH (bU (l.getD j 0) (by
             have bB:j<l.length:=by rw[G.out];exact hj
             rw[D1,h' bB];exact A5 _ (D2 bB))) (bE.out.get j) Qc:IntKind.i64.wrap ((l.getD j 0).tdiv F)=l.getD j 0 / F);have bN:=w0 bM;have bD:=w0 fun(x:World)=>(⟨rfl,.inr ⟨x.heap.size,1,#[.int .i64 den],rfl,sW _,ZA _ _ rfl,sW _,Qc,rfl,rfl⟩⟩:(x.alloc (.cells #[den] 3)).ownsRow x.heap.size 3 1 (.slice (some x.heap.size) 1 1) 1 [.int .i64 den]);obtain⟨g,rfl,fQ,-⟩:=hcl.out wr O.out 0 (by have:=aO.out;omega);have dX:=w0 (dW.out g rfl);clear bM bU eX eI cJ bG s;go_wp2_with (at_builtin;refine X0 _ rfl _ _ 30 rfl wr.heap.size 3 i0 (.int .i64 0) 1 8 underlying30 hi dJ dK dL rfl Qc _ _ _ rfl (bD.out wr) ⟨g,0,none⟩ np J (l.map (Value.int .i64)) rfl ?c0 ?c1 ?c2 ?c3 ?c4 ?c5 ?_);case c0=>rw[sA,G.out,w8]
            case c1=>
             intro j u hu;obtain⟨g',e1,-,-,e2⟩:=X5 (ZI O.out (ZC wr (.cells #[den] 3))) hu;cases e1;have e:Addr.add ⟨g,0,none⟩ j=⟨g,j,none⟩:=by unfold Addr.add;split<;>simp_all
             rw[e];exact e2
            case c2=>intro u hu;obtain⟨y,-,rfl⟩:=b3.1 hu;rfl
            case c3=>unfold maxLen;omega
            case c4=>omega
            case c5=>simp
            intro v4 w4 I aG _;obtain⟨A4,c4,rfl⟩:=Z3 I;have aM:Below wr.heap.size wr w4:=ZS (ZC wr _) aG fun b e=>by cases e;exact sW _
            have cH:=w0 (show At 1 Zc w4 A4 (den::l)from e7 (l:=den::l) I);have dQ:=w0 (ZI O.out aM);have dU:=Zx aM bT;have cI:=via aI aM;clear I aG aM O bT aI aL;go_wp2_with (go_at_call 76;refine(bP.out _ _ _ cH.out).mono ?_;rintro e w5 ⟨rfl,U⟩;have bS:=Zx U dU;have D:=bk2 bS);have dR:=w0 (ZI dQ.out U);have aW:=via cI U;have C:=Zx aW P1;have aF:=via aY aW;obtain⟨fN,fO⟩:=dX.out;have fU:=ZG bS;clear dQ dU cI U cH bP bD D aW P0 P1 aA aY;go_loopw [129] (fun i wr=>∃k:Nat,k<=np/\i=.int .i64 k/\Hid (wr.ownsRow Bs 3 1 (.slice (some g) np J) np (((l.take k).map (· / F)++l.drop k).map (Value.int .i64)))/\wr.heap[Q]?=some (.cells #[den,.slice (some g) np J] 57)/\wr.heap[w.heap.size+1]?=some (.cells #[(0:Int),.slice none 0 0] 57)/\QB w wr)(fun i _=>np-(intOf i).toNat);case atStart=>exact⟨0,k2 _,rfl,w0 (by simpa using dR.out),bS,C,aF⟩
            case round=>
             clear dR bS C aF;obtain⟨k,hk,rfl,aR,dV,C,Y⟩:=hrel;have D:=bk2 dV;by_cases s:k<np
             .have bC:(k:Int)<(np:Int):=Qa
              have dD:k<l.length:=by rw[G.out];exact s
              obtain⟨g',e1,gG,gH,ci⟩:=X5 aR.out (k:=k) (u:=.int .i64 (l.getD k 0)) (by rw[C2,CC dD];rfl);cases e1;have fi:=WV aR.out k;have cS:=w0 (WU aR.out s (.int .i64 (l.getD k 0 / F)));have cN:(((l.take k).map (· / F)++l.drop k).map (Value.int .i64)).set k (.int .i64 (l.getD k 0 / F))=((l.take (k+1)).map (· / F)++l.drop (k+1)).map (Value.int .i64):=by rw[<-CA dD,kT]
              rw[cN]at cS;have fI:=fH.out k s;obtain⟨y,q⟩:=Qu (l.getD k 0);rw[q]at ci fI cS;clear q dD cN aR;go_wp2;go_roundw;case rel=>exact⟨k+1,Qa,Qj,cS.out,ZB dV Qg _,ZB C Qg _,Y.setCell Qg _⟩
              case measure=>exact Qv
             .obtain rfl:np=k:=Qa
              have dS:=w0 aR.out;rw[show l.take np=l by rw[<-G.out,x1],show l.drop np=[]by rw[<-G.out,List.drop_length],q5]at dS;have C1:=bk2 C;clear aR;have eN:w.heap.size+1≠Q:=Qa
              have fS:Q≠w.heap.size+1:=Qa
              have eO:g≠Q:=Qa
              have cK:g≠w.heap.size+1:=Qa
              obtain⟨d2,eZ⟩:=Qu (den / F);rw[eZ]at dI bN;go_wp2;refine r3 (v:=.tuple #[.agg #[d2,.slice (some g) np J],true]) ?_ rfl ⟨?_,?_⟩;·refine b4 (p:=2) (u:=3) (ad:=⟨w.heap.size+1,0,none⟩) (v:=.agg #[d2,.slice (some g) np J]) rfl Qe (x3 (T:=57) (cs:=[.int .i64 d2,.slice (some g) np J]) Qb Qb ?_);exact ZH (ZH (ZB C eN _) _ rfl) _ rfl
              .unfold tU;rw[bN.out];refine⟨_,_,rfl,b2 (Z1 dS.out fun r e=>?_) (h9 Qa dO)⟩;cases e;rw[gS _ _ _ _ cK,gS _ _ _ _ cK,gS _ _ _ _ eO]
              .exact((Y.setCell Qg _).setCell Qg _).setCell Qg _
end Go.Proofs
namespace Go.Proofs
open Tryz
open Go.RowKit
attribute [local go_sem] Oper.semAt_some def SI(n k:Nat)(M:hN)(w:World)(J:List ChV->(Nat->Prop)->World->Prop)(a B O Q:Nat)(f:Nat)(wr:World):Prop:=∃i l t T,f+i=(cmb 0 n k).length/\ChI n k M w J a B O Q i l wr t T
def XB(m n k:Nat)(C:k<=n)(hn:n<=1000)(O Q:Nat)(M:hN)(w:World)(g:w.heap[O]?=some (.cells #[k] 3))(h2:w.heap[Q]?=some (.cells #[n] 3))(hM1:¬M O)(hM2:¬M Q)(hMw:∀j,M j->j<w.heap.size):CW Fence.wide m prog 99 #[.pointer (some O),.pointer (some Q)] xE gvN M (fun t x W=>(t++[x]).map ChV.l<+:cmb 0 n k/\ZN 3 W x.b (ZO x.l)/\x.l.length=k)
   (fun xs=>xs.map ChV.l=cmb 0 n k) (fun t=>t.map ChV.l<+:cmb 0 n k) (cmb 0 n k).length w:=by
 intro l J Jx W hW dO cJ hJ cE hY h0;have dY:=hW.size;have g1:=hW.block O (ZG g);have g2:=hW.block Q (ZG h2);rw[g]at g1;rw[h2]at g2;have dH:=ZG g;have dI:=ZG h2;have cN:=w0 (BD k Qa);have bP:=cN.out;have G1:=bk1 g1;have S:=w0 hJ;have cF:=w0 hMw;have cG:=w0 hY;have bI:=w0 hM1;have bJ:=w0 hM2;have cC:=w0 h0;have cK:=w0 (Nn 0 n k);have aG:=w0 (wJ 0 n k C);have aC:=w0 fun i l h=>HS 0 n k (n-k) Qa i l h;have bO:=w0 C;have bW:k<=1000:=Qa
 clear h0 hJ cE hY hM1 hM2 hMw g h2 C;refine callsIn_of_wp func99 rfl trivial ?_;simp only[ntmps99,hM,y',hG,Nat.reduceAdd,Nat.reduceSub,kX,CV,List.push_toArray,iO,e9,hP];gi_wp2_with fail;clear bP G1;gi_loopw [12] (fun i wr=>∃j:Nat,j<=k/\i=.int .i64 j/\ZN 3 wr W.heap.size (R5 k j)/\W.grownBy wr none/\W.heap.size<wr.heap.size)(fun i _=>k-(intOf i).toNat);case atStart=>exact⟨0,k2 _,rfl,by have:=ZN.new (T:=3) W (List.replicate k 0);simpa [R5,ZO] using this,xB W _ none,Qd⟩
 case round=>
  obtain⟨j,hj,rfl,hm,v,bD⟩:=hrel;by_cases aY:j<k
  .have dM:(j:Int)<(k:Int):=Qa
   have cj:=hm.loadD (k:=j) (by rw[VX hj];exact aY);have fj:=hm.frozen j;have cL:=w0 (hm.store j (j:Int));have dN:IntKind.i64.wrap ((j:Int)+1)=((j+1:Nat):Int):=by rw[Int.natCast_add];exact B3 _ Qa
   gi_wp2;go_roundw;case rel=>have:=cL.out;rw[VW aY]at this;exact⟨j+1,Qa,Qj,this,⟨v.os,v.tape,v.output,by simp;exact v.size,fun i hi _=>(gS wr _ _ i Qk).trans (v.block i hi Qd)⟩,by simpa using bD⟩
   case measure=>exact Qv
  .obtain rfl:j=k:=Qa
   rw[VY]at hm;have bH:SI n j M w J W.heap.size W.heap.size O Q (cmb 0 n j).length wr:=⟨0,_,[],fun _=>False,Qa,rfl,rfl,aG.out,hm,S.out _ _ _ _ none cC.out v (fun r e=>by cases e),fun r h=>h.elim,(v.block _ (ZG g1) Qd).trans g1,(v.block _ (ZG g2) Qd).trans g2,sW _,bD⟩;obtain⟨B,aU⟩:∃B:Nat->World->Prop,B=fun f wr=>SI n j M w J W.heap.size W.heap.size O Q f wr:=⟨_,rfl⟩;have aK:Hid (∀f wr,B f wr->SI n j M w J W.heap.size W.heap.size O Q f wr):=by rw[aU];exact fun _ _ h=>h
   have V:Hid (∀f wr,SI n j M w J W.heap.size W.heap.size O Q f wr->B f wr):=by rw[aU];exact fun _ _ h=>h
   have R:=w0 bH;obtain⟨o,aV⟩:=Qu W.heap.size;rw[aV]at aK V R cJ;have dC:=w0 aV;rw[aV];clear aU bH hm v bD aY g1 g2;gi_wp2;gi_loopw [6] (fun _ wr=>∃f,B f wr)(fun _ wr=>leastOf fun f=>B f wr);case atStart=>exact⟨_,V.out _ _ R.out⟩
   case round=>
    clear R;obtain⟨f,hf⟩:∃f,(leastOf fun f=>B f wr)=f:=⟨_,rfl⟩;have aX:=(leastOf_spec hrel).1;rw[hf]at aX;have cI:=w0 hf;clear hf hrel;obtain⟨i,L,t,T,dK,hc⟩:=aK.out _ _ aX;clear aX;obtain⟨aO,aP,z,aD,bT,aJ,bE,bF,bU⟩:=hc;have C1:=bk1 bE;have C2:=bk1 bF;have aT:=cK.out L (k3 z);have dL:i<(cmb 0 n j).length:=(p1.1 z).1;have bC:(t++[(⟨o,L⟩:ChV)]).map ChV.l=(cmb 0 n j).take (i+1):=by rw[x0,aP,w9,z];rfl
    have bB:(t++[(⟨o,L⟩:ChV)]).map ChV.l<+:cmb 0 n j:=by rw[bC];exact List.take_prefix _ _
    obtain⟨fn,tm,bX,bY,N,hR⟩:=cG.out t T ⟨o,L⟩ wr bT (fun r c=>⟨by have:=(aJ r c).1;omega,(aJ r c).2.1⟩) (fun y _ r c=>c.elim) Qa ⟨bB,aD,aT⟩;have cY:(Instr.yield l #[.slice (some o) j j]).run prog wr=.ok (.round l fn tm bX bY) wr:=by have:=N;simp only[xE,aT]at this;exact this
    have bK:=w0 hR;have dP:(j:Int)<=(n:Int):=by have:=bO.out;omega
    have aL:=w0 bC;have bR:=w0 bB;have aF:=w0 aJ;have aE:=w0 aD;have aM:=w0 bE;have aN:=w0 bF;have I:=w0 z;have dG:=bU.2;have bG:=w0 aO;clear N hR bC bB aP bT aJ aD z bE bF bU aO;gi_wp2_with fail;clear cY C1 C2;refine⟨fun h=>(by cases h),bK.out.mono ?_⟩;clear bK;rintro e w4 ⟨T',t1,t2,aA,(⟨rfl,U⟩|⟨rfl,U⟩)⟩
    .have bL:∀r,T' r->o<=r/\r<w4.heap.size/\r≠o:=fun r c=>by
      have h2:=t2 r c;rcases t1 r c with h|h;·have:=aF.out r h;omega
      .omega
     have aH:∀b,(b=o∨b=O∨b=Q)->¬(M b∨T b∨b=l):=by
      rintro b hb (h|h|h)
      .rcases hb with rfl|rfl|rfl;·have:=cF.out _ h;omega
       .exact bI.out h
       .exact bJ.out h
      .have:=aF.out b h;omega
      .omega
     have aQ:=aE.out.grown aA (aH o (.inl rfl));have q1:=aA.obj (aH O (.inr (.inl rfl))) aM.out;have q2:=aA.obj (aH Q (.inr (.inr rfl))) aN.out;have D1:=bk1 q1;have D2:=bk1 q2;obtain⟨m0,aZ⟩:=Qu (n-j);have cQ:IntKind.i64.wrap ((j:Int)-1)=(j:Int)-1:=B3 _ Qa;have K:=w0 U;have X:=w0 bL;clear aA t1 t2 U bL aH aE aM aN aF;gi_wp2;gi_loopw [6] (fun aR P=>∃a:Nat,a<=j/\aR=.int .i64 ((a:Int)-1)/\Hid (∀q y,a<=q->L[q]?=some y->y=m0+q)/\QB w4 P)(fun aR _=>(intOf aR+1).toNat);case atStart=>exact⟨j,sW _,rfl,fun q y hq N=>by have:=(p1.1 N).1;omega,l3 _ _⟩
     case round=>
      obtain⟨a,ha,rfl,u,G⟩:=hrel;have r1:=Zx G q1;have r2:=Zx G q2;have D:=aQ.below G;have E1:=bk1 r1;have E2:=bk1 r2;have dV:IntKind.i64.wrap ((n:Int)-(j:Int))=(m0:Int):=by rw[B3 _ Qa];omega
      rcases a with _|b
      .have e0:((0:Nat):Int)-1=-1:=rfl;rw[e0];have cO:decide ((0:Int)<=-1)=false:=rfl;gi_wp2;refine wpIn_wide.2 ?_;refine c8 w4 Qb Qb G ?_;intro Z Y;repeat (go_big_quiet_step (fail))
       refine ZyG ?_;intro F s d H;clear Z Y;have aS:=w0 (S.out _ _ _ _ none K.out (J2 d) (fun r e=>by cases e));have bN:Hid (i+1=(cmb 0 n j).length):=by have g:=aC.out i L I.out;rw[wK (n-j) L (fun q x A=>by rw[aZ];exact u.out q x (k2 _) A)]at g;have:=iL.1 g.symm;show _=_;omega
       gi_wp2;refine r3 (results_none rfl _ _ _) rfl ?_;exact⟨⟨_,rfl⟩,.inl ⟨_,T',by rw[aL.out,bN.out,x1],aS.out⟩⟩
      .have e0:((b+1:Nat):Int)-1=(b:Int):=Qa
       rw[e0];obtain⟨x,A⟩:∃x,L[b]?=some x:=⟨_,h' Qa⟩;have cx:=D.load (RP A);have eA:x<n:=(Asc.lt (sM 0 n j L (k3 I.out)) x (k3 A)).2|>fun h=>Qa
       have dJ:(b:Int)<(j:Int):=Qa
       have cO:decide ((0:Int)<=(b:Int))=true:=Qd
       have dE:IntKind.i64.wrap ((m0:Int)+(b:Int))=(m0:Int)+(b:Int):=B3 _ Qa;have eB:=D.size;by_cases aI:x=m0+b
       .have cV:((x:Int)==(m0:Int)+(b:Int))=true:=Qk
        have bA:=w0 (show ∀q y,b<=q->L[q]?=some y->y=m0+q from fun q y hq N=>by
         rcases Nat.eq_or_lt_of_le hq with rfl|hq;·rw[A]at N;cases N;exact aI
         .exact u.out q y hq N);have cR:IntKind.i64.wrap ((b:Int)-1)=(b:Int)-1:=B3 _ Qa;clear aI u A;gi_wp2;refine wpIn_wide.2 ?_;refine c8 w4 Qb Qb G ?_;intro Z Y;repeat (go_big_quiet_step (fail))
        refine ZyG ?_;intro F s d H;clear Z Y;gi_wp2;go_roundw;case rel=>exact⟨b,Qa,rfl,bA.out,d⟩
        case measure=>exact Qv
       .have cV:((x:Int)==(m0:Int)+(b:Int))=false:=Qk
        have cS:IntKind.i64.wrap ((x:Int)+1)=(x:Int)+1:=B3 _ Qa;have cW:=w0 (show ((x:Int)+1)=((x+1:Nat):Int)by omega);have cR:IntKind.i64.wrap ((b:Int)+1)=((b+1:Nat):Int):=by rw[B3 _ Qa];omega
        have cP:=w0 ((JI (n-j) L b x A (by rw[aZ];exact aI) (fun q y hq N=>by rw[aZ];exact u.out q y Qa N)).symm.trans (aC.out i L I.out));have cU:=w0 A;have cM:=w0 D;have eC:=w0 r1;have eD:=w0 r2;clear aI u A cQ;gi_wp2;refine wpIn_wide.2 ?_;refine c8 w4 Qb Qb G ?_;intro Z Y;repeat (go_big_quiet_step (fail))
        refine ZyG ?_;intro F s d H;clear Z Y;have s1:=Zx s r1;have s2:=Zx s r2;have E:=D.below s;have F1:=bk1 s1;have F2:=bk1 s2;have bZ:=E.load (RP cU.out);have cA:=E.frozen b;have aS:=w0 (S.out _ _ _ _ none K.out (J2 d) (fun r e=>by cases e));have dZ:=E.size;clear E1 E2 r1 r2 D cx aQ q1 q2 D1 D2;have cH:b<L.length:=Qa
        have bV:=w0 (show ZN 3 (F.setCell ⟨o,b,none⟩ (.int .i64 ((x:Int)+1))) o (ZO (F9 L b x (b+1)))from by rw[<-VZ cH,<-J1,cW.out];exact E.store b _);have dA:=w0 (ZB s1 (p:=⟨o,b,none⟩) Qg (.int .i64 ((x:Int)+1)));have dB:=w0 (ZB s2 (p:=⟨o,b,none⟩) Qg (.int .i64 ((x:Int)+1)));have cD:=w0 (S.out _ _ _ _ (some o) aS.out (J3 F o b (.int .i64 ((x:Int)+1))) (fun r e=>by cases e;exact⟨Qa,fun h=>(X.out _ h).2.2 rfl,fun y _ h=>h⟩));gi_wp2;have dD:(F.setCell ⟨o,b,none⟩ (.int .i64 ((x:Int)+1))).heap.size=F.heap.size:=Qd
        generalize F.setCell ⟨o,b,none⟩ (.int .i64 ((x:Int)+1))=w5 at*;have bM:=w0 (fun r c=>by have g:=X.out r c;have h2:=d.size;exact⟨g.1,Qa,g.2.2⟩:∀r,T' r->o<=r/\r<w5.heap.size/\r≠o);clear s1 s2 F1 F2 E bZ cA s d H G cS;gi_loopw [7] (fun q_ P=>∃q:Nat,b<q/\q<=j/\q_=.int .i64 q/\Hid (ZN 3 P o (ZO (F9 L b x q))/\P.heap[O]?=some (.cells #[j] 3)/\P.heap[Q]?=some (.cells #[n] 3)/\J (t++[⟨o,L⟩]) T' P/\P.heap.size=w5.heap.size))(fun q_ _=>j-(intOf q_).toNat);case atStart=>exact⟨b+1,Qa,Qa,rfl,bV.out,dA.out,dB.out,cD.out,rfl⟩
        case round=>
         obtain⟨q,aW,dU,rfl,bQ⟩:=hrel;obtain⟨u0,u1,u2,u3,u4⟩:=bQ.out;clear bQ;have E1:=bk1 u1;by_cases bS:q<j
         .have dS:(q:Int)<(j:Int):=Qa
          obtain⟨p,rfl⟩:∃p,q=p+1:=⟨q-1,Qa⟩;have dR:((p+1:Nat):Int)-1=(p:Int):=Qa
          have dW:IntKind.i64.wrap (((p+1:Nat):Int)-1)=(p:Int):=by rw[B3 _ Qa];omega
          have dQ:(p:Int)<(j:Int):=Qa
          have cq:=u0.load (RP (by have:=V4 (l:=L) (x:=x) aW Qa;rwa [eE]at this));have cX:x+(p+1-b)<=2000:=Qa
          obtain⟨y,N⟩:=Qu (x+(p+1-b));rw[N]at cq cX;have cT:IntKind.i64.wrap ((y:Int)+1)=((y+1:Nat):Int):=by rw[B3 _ Qa];omega
          have dX:IntKind.i64.wrap (((p+1:Nat):Int)+1)=((p+1+1:Nat):Int):=by rw[B3 _ Qa];omega
          have cs:=u0.loadD (k:=p+1) (by rw[x7,V3 aW Qa];omega);have fs:=u0.frozen (p+1);have cZ:=w0 (show ((y:Int)+1)=((y+1:Nat):Int)by omega);have v0:=w0 (show ZN 3 (wr.setCell ⟨o,p+1,none⟩ (.int .i64 ((y:Int)+1))) o (ZO (F9 L b x (p+1+1)))from by have:=V1 (l:=L) (x:=x) aW Qa;rw[N]at this;rw[<-this,<-J1,cZ.out];exact u0.store (p+1) _);have v1:=w0 (ZB u1 (p:=⟨o,p+1,none⟩) Qg (.int .i64 ((y:Int)+1)));have v2:=w0 (ZB u2 (p:=⟨o,p+1,none⟩) Qg (.int .i64 ((y:Int)+1)));have vJ:=w0 (S.out _ _ _ _ (some o) u3 (J3 wr o (p+1) (.int .i64 ((y:Int)+1))) (fun r e=>by cases e;exact⟨Qa,fun h=>(X.out _ h).2.2 rfl,fun y _ h=>h⟩));have dF:IntKind.i64.wrap ((y:Int)+1)=(y:Int)+1:=B3 _ Qa;clear cT N u0 u1 u2 u3;gi_wp2;go_roundw;case rel=>exact⟨p+1+1,Qa,Qa,rfl,v0.out,v1.out,v2.out,vJ.out,by simpa using u4⟩
          case measure=>exact Qv
         .obtain rfl:q=j:=Qa
          have aB:=w0 (V.out (f-1) wr ⟨i+1,F9 L b x q,t++[⟨o,L⟩],T',Qa,⟨by rw[hK,bG.out];rfl,aL.out,by have:=cP.out;rw[<-this,<-aT,V5],u0,u3,fun r c=>by rw[u4];exact bM.out r c,u1,u2,sW _,u0.size⟩⟩);clear u0 u1 u2 u3 bS;gi_wp2;refine⟨⟨f-1,aB.out⟩,?_⟩;rw[cI.out];exact Nat.lt_of_le_of_lt ((leastOf_spec (p:=fun f=>B f wr) ⟨f-1,aB.out⟩).2 (f-1) aB.out) Qa
    .have K:=w0 U;clear aA U t1 t2;gi_wp2;refine r3 (results_none rfl _ _ _) rfl ?_;exact⟨⟨_,rfl⟩,.inr ⟨_,T',bR.out,K.out⟩⟩
end Go.Proofs
namespace Go.Proofs
open Tryz
open Go.RowKit
def DG:(Z5 (.slice none 0 0) (.slice none 0 0) (.slice none 0 0) (.slice none 0 0) [] []).toArray=#[.slice none 0 0,.slice none 0 0,.slice none 0 0,.slice none 0 0,.bool false,.bool false,.bool false,.bool false,.bool false,.bool false,.bool false,.bool false,.bool false,.bool false,.bool false,.bool false,.bool false]:=by simp[Z5,boolL,cO]
def XC(a d:Value):(Z5 a d (.slice none 0 0) (.slice none 0 0) [] []).toArray=#[a,d,.slice none 0 0,.slice none 0 0,.bool false,.bool false,.bool false,.bool false,.bool false,.bool false,.bool false,.bool false,.bool false,.bool false,.bool false,.bool false,.bool false]:=by simp[Z5,boolL,cO]
def KH(n:Nat)(z:y0):∀u∈boolL n z,u.oneCell'=true:=by intro u d;obtain⟨i,-,rfl⟩:=b3.1 d;rfl
def xK{a f i h:Value} {z t:y0} (m:a.oneCell'=true)(o:f.oneCell'=true)(p:i.oneCell'=true)(h4:h.oneCell'=true):∀u∈Z5 a f i h z t,u.oneCell'=true:=by
 intro u d;simp only[Z5,ZBq,C1]at d;rcases d with rfl|rfl|rfl|rfl|d|d;·exact m
 .exact o
 .exact p
 .exact h4
 .exact KH _ _ _ d
 .exact KH _ _ _ d
def XD(O I A:i')(d Q E J cl:Nat)(l:y0)(w:World)(hl:At 1 Zc w A (ZO l))(V:Asc 0 (d+E) l)(hp:d<=5)(he:E<=8):Calls prog 78 #[.agg #[.slice O d Q,.slice I E J],.slice A l.length cl] w fun e w'=>(∃zv tv,e=.returned (.agg (Z5 (.slice O d Q) (.slice I E J) zv tv (zerosL d l) (tightL d l)).toArray)/\w'.ownsRow w.heap.size 3 1 zv (zerosL d l).length ((ZO (zerosL d l)).map (Value.int .i64))/\w'.ownsRow w.heap.size 3 1 tv (tightL d l).length ((ZO (tightL d l)).map (Value.int .i64)))/\QB w w':=by
 have bR:l.length<=13:=by
  have:∀(l:y0)(a b:Nat),Asc a b l->l.length<=b-a:=by intro l;induction l with|nil=>intro a b _;exact k2 _|cons x t ih=>intro a b h;have h1:=ih (x+1) b h.2.2;have h2:=h.1;have h3:=h.2.1;simp only[y'];omega
  have:=this l 0 _ V;omega
 have gl:=w0 fun W (hb:QB w W) k (hk:k<l.length)=>D9 (hl.below hb) (k:=k) (by rw[x7];exact hk);have aV:=w0 fun x hx=>(Asc.lt V x hx).2;obtain⟨N,hN⟩:=Qu l.length;have bC:=w0 hN;rw[hN]at gl bR |-;obtain⟨i0,hi,bK,bL,bM⟩:=n9 info3;have L:∀x,(sizeOf 136).run prog x=.ok 17 x:=fun x=>Qb
 have aL:∀x,(isAgg 136).run prog x=.ok true x:=fun x=>Qb
 obtain⟨ZF,aU⟩:=Qu (zerosL d l);obtain⟨P,aT⟩:=Qu (tightL d l);rw[aU,aT];have aK:=w0 aU;have aJ:=w0 aT;clear hl V hN aU aT;go_enter func78,ntmps78;go_wp2_with (refine P0 Qh (.tmp 5) (.tmp 10) 136 Qh (w.heap.size+2) (Z5 (.slice O d Q) (.slice I E J) (.slice none 0 0) (.slice none 0 0) [] []) (Z5 (.slice none 0 0) (.slice none 0 0) (.slice none 0 0) (.slice none 0 0) [] []) 136 ?sp ?sq (L _) ?sb rfl (xK rfl rfl rfl rfl) ?_);case sp=>rfl
 case sq=>rw[XC];rfl
 case sb=>rw[DG];exact Qs
 intro w1 aN aG aO;have F:w1.heap[w.heap.size]?=some (.cells #[.slice O d Q,.slice I E J] 25):=b5 aG (Qs) Qf;have bD:QB w w1:=ZS (via (ZC _ _) (via (ZC _ _) (ZC _ _))) aG (fun b e=>by have:=R' e;omega);have bS:w1.heap.size=w.heap.size+3:=by simpa using aO
 have aB:Hid (∃c,w1.heap[w.heap.size+1]?=some (.cells c 136)/\c.size=17):=w0 ⟨_,b5 aG (Qs) Qf,rfl⟩;clear aG aO;go_wp2;go_loopw [13] (fun i wr=>∃k:Nat,k<=N/\i=.int .i64 k/\wr.heap[w.heap.size]?=some (.cells #[.slice O d Q,.slice I E J] 25)/\Hid (∃c,wr.heap[w.heap.size+1]?=some (.cells c 136)/\c.size=17)/\Hid (∃zv tv,BasI (w.heap.size+3) (w.heap.size+2) (.slice O d Q) (.slice I E J) (zerosL d (l.take k)) (tightL d (l.take k)) zv tv wr)/\QB w wr/\w.heap.size+3<=wr.heap.size) (fun i _=>N-(intOf i).toNat);case atStart=>exact⟨0,k2 _,rfl,F,aB.out,⟨.slice none 0 0,.slice none 0 0,aN,gE _ _ _ _,gE _ _ _ _,fun g h=>by cases h⟩,bD,Qa⟩
 case round=>
  clear F aN bD bS aB;obtain⟨k,hk,rfl,F,hr,aM,aF,bX⟩:=hrel;obtain⟨zv,tv,hB⟩:=aM.out;obtain⟨Bk,Bz,Bt,aP⟩:=hB;obtain⟨B,C,rfl⟩:=Z3 Bz;obtain⟨j,q,rfl⟩:=Z3 Bt;have C0:=bk2 F;have CB:=H0 Bk;clear aM;by_cases aX:k<N
  .have bW:(k:Int)<(N:Int):=Qa
   obtain⟨b,o,rfl,bV,ck⟩:=gl.out wr aF k aX;obtain⟨x,hx⟩:∃x,l[k]?=some x:=⟨_,h' (by rw[bC.out];exact aX)⟩;have bJ:(ZO l).getD k 0=(x:Int):=by rw[D1,RP hx];rfl
   rw[bJ]at ck;have cD:=aV.out x (k3 hx);have aZ:l.take (k+1)=l.take k++[x]:=by rw[w9,hx];rfl
   have aI:=w0 (show zerosL d (l.take (k+1))=if x<d then zerosL d (l.take k)++[x]else zerosL d (l.take k)by rw[aZ,WA]);have aC:=w0 (show tightL d (l.take (k+1))=if x<d then tightL d (l.take k)else tightL d (l.take k)++[x-d]by rw[aZ,WB]);clear aZ;have cE:(zerosL d (l.take k)).length<=13:=h9 (jU _ _) Qk;have bY:(tightL d (l.take k)).length<=13:=by unfold tightL;rw[sA];exact h9 (jU _ _) Qk
   generalize zerosL d (l.take k)=Z at*;generalize tightL d (l.take k)=T at*;have p:=w0 Bz;have m:=w0 Bt;have z:=w0 Bk;have s:=w0 aP;clear bJ hx Bz Bt Bk aP;by_cases D:x<d
   .have bT:(x:Int)<(d:Int):=Qa
    have cA:(x:Int)<5:=Qa
    have aD:x<5:=Qa
    have cz:=M4 z.out (xF (.slice O d Q) (.slice I E J) (.slice B Z.length C) (.slice j T.length q) Z T x aD);have fz:=tS z.out (4+x);go_wp2_with (at_builtin;refine r9 _ rfl _ _ 30 rfl (w.heap.size+3) 3 i0 (.int .i64 0) 1 8 underlying30 hi bK bL bM rfl Qc _ _ _ rfl (p.out.alloc _) ⟨wr.heap.size,0,none⟩ 1 1 [.int .i64 (x:Int)] rfl rfl ?c1 ?c2 Qc ?c3 ?c4 ?c5 (wr.heap.size+1) ?c6 ?_);case c1=>exact D7 _ [.int .i64 (x:Int)] _ Qd
    case c2=>intro u hu;simp at hu;subst hu;rfl
    case c3=>unfold maxLen;omega
    case c4=>omega
    case c5=>simp;omega
    case c6=>simp
    intro g G M H f aA bF;have bQ:=(H.lt g rfl).1;have r:=b5 f (Zz z.out _) (P3 p.out Qa);have M3:=b5 f (Zz F _) (P3 p.out Qa);have aQ:=w0 (tR (ZI m.out (ZC _ _)) f fun g' R S=>s.out g' S.symm R);have aY:Hid (∃c,M.heap[w.heap.size+1]?=some (.cells c 136)/\c.size=17):=by obtain⟨c,h1,h2⟩:=hr.out;exact⟨c,b5 f (Zz h1 _) (P3 p.out Qa),h2⟩
    have aS:=w0 (show ∀g',(Value.slice (some g) (Z.length+1) G).ownBlock=some g'->(Value.slice j T.length q).ownBlock≠some g' from fun g' R S=>by
     cases R;rcases aA with h|h;·exact s.out g h S
     .have:=(m.out.lt g S).2;omega);have X:QB w M:=ZS (via aF (ZC _ _)) f fun b e=>by have:=(p.out.lt b e).1;omega
    have bI:wr.heap.size+1<=M.heap.size:=by have:=f.size;simpa using this
    have bN:=H0 r;have bO:=M4 r (xF (.slice O d Q) (.slice I E J) (.slice B Z.length C) (.slice j T.length q) Z T x aD);have bP:=tS r (4+x);have Y:Hid (M.ownsRow (w.heap.size+3) 3 1 (.slice (some g) (Z.length+1) G) (Z.length+1) ((ZO (Z++[x])).map (Value.int .i64))):=w0 (by
     have e:(ZO (Z++[x])).map (Value.int .i64)=(ZO Z).map (Value.int .i64)++[.int .i64 (x:Int)]:=by simp[ZO]
     rw[e];exact H);have U:=w0 r;clear CB cz fz r H f aA p m z s hr C0 F;go_wp2;go_roundw;case rel=>
     refine⟨k+1,Qa,Qj,ZB (ZB M3 Qg _) Qg _,?_,⟨.slice (some g) (Z.length+1) G,.slice j T.length q,?_,?_,?_,aS.out⟩,(X.setCell Qg _).setCell Qg _,Qk⟩;·obtain⟨c,h1,h2⟩:=aY.out;exact⟨c,ZB (ZB h1 Qg _) Qg _,h2⟩
     .rw[aI.out,aC.out,Zde D,Zde D];exact ZH (ZH U.out _ (V9 ..)) _ (V6 _ _ _ _ _ _ x aD)
     .rw[aI.out,Zde D,hK];exact GN (GN Y.out Qg _) Qg _
     .rw[aC.out,Zde D];exact GN (GN aQ.out Qg _) Qg _
    case measure=>exact Qv
   .obtain⟨y,hy⟩:=Qu (x-d);have bT:(d:Int)<=(x:Int):=Qa
    have bZ:IntKind.i64.wrap ((x:Int)-(d:Int))=(y:Int):=by rw[B3 _ Qa];omega
    have cC:(y:Int)<8:=Qa
    have aE:y<8:=Qa
    rw[hy]at aC;have cz:=M4 z.out (J4 (.slice O d Q) (.slice I E J) (.slice B Z.length C) (.slice j T.length q) Z T y aE);have fz:=tS z.out (9+y);clear hy;go_wp2_with (at_builtin;refine r9 _ rfl _ _ 30 rfl (w.heap.size+3) 3 i0 (.int .i64 0) 1 8 underlying30 hi bK bL bM rfl Qc _ _ _ rfl (m.out.alloc _) ⟨wr.heap.size,0,none⟩ 1 1 [.int .i64 (y:Int)] rfl rfl ?c1 ?c2 Qc ?c3 ?c4 ?c5 (wr.heap.size+1) ?c6 ?_);case c1=>exact D7 _ [.int .i64 (y:Int)] _ Qd
    case c2=>intro u hu;simp at hu;subst hu;rfl
    case c3=>unfold maxLen;omega
    case c4=>omega
    case c5=>simp;omega
    case c6=>simp
    intro g G M H f aA bF;have bQ:=(H.lt g rfl).1;have r:=b5 f (Zz z.out _) (P3 m.out Qa);have M3:=b5 f (Zz F _) (P3 m.out Qa);have aR:=w0 (tR (ZI p.out (ZC _ _)) f fun g' R S=>s.out g' R S.symm);have aY:Hid (∃c,M.heap[w.heap.size+1]?=some (.cells c 136)/\c.size=17):=by obtain⟨c,h1,h2⟩:=hr.out;exact⟨c,b5 f (Zz h1 _) (P3 m.out Qa),h2⟩
    have aS:=w0 (show ∀g',(Value.slice B Z.length C).ownBlock=some g'->(Value.slice (some g) (T.length+1) G).ownBlock≠some g' from fun g' R S=>by
     cases S;rcases aA with h|h;·exact s.out g R h
     .have:=(p.out.lt g R).2;omega);have X:QB w M:=ZS (via aF (ZC _ _)) f fun b e=>by have:=(m.out.lt b e).1;omega
    have bI:wr.heap.size+1<=M.heap.size:=by have:=f.size;simpa using this
    have bN:=H0 r;have bO:=M4 r (J4 (.slice O d Q) (.slice I E J) (.slice B Z.length C) (.slice j T.length q) Z T y aE);have bP:=tS r (9+y);have Y:Hid (M.ownsRow (w.heap.size+3) 3 1 (.slice (some g) (T.length+1) G) (T.length+1) ((ZO (T++[y])).map (Value.int .i64))):=w0 (by
     have e:(ZO (T++[y])).map (Value.int .i64)=(ZO T).map (Value.int .i64)++[.int .i64 (y:Int)]:=by simp[ZO]
     rw[e];exact H);have U:=w0 r;clear CB cz fz r H f aA p m z s hr C0 F;go_wp2;go_roundw;case rel=>
     refine⟨k+1,Qa,Qj,ZB (ZB M3 Qg _) Qg _,?_,⟨.slice B Z.length C,.slice (some g) (T.length+1) G,?_,?_,?_,aS.out⟩,(X.setCell Qg _).setCell Qg _,Qk⟩;·obtain⟨c,h1,h2⟩:=aY.out;exact⟨c,ZB (ZB h1 Qg _) Qg _,h2⟩
     .rw[aI.out,aC.out,q' D,q' D];exact ZH (ZH U.out _ (V' ..)) _ (V8 _ _ _ _ _ _ y aE)
     .rw[aI.out,q' D];exact GN (GN aR.out Qg _) Qg _
     .rw[aC.out,q' D,hK];exact GN (GN Y.out Qg _) Qg _
    case measure=>exact Qv
  .obtain rfl:k=N:=Qa
   have K:l.take k=l:=by rw[<-bC.out,x1]
   clear CB;rw[K,aK.out,aJ.out]at Bk;rw[K,aK.out]at Bz;rw[K,aJ.out]at Bt;have p:=w0 Bz;have m:=w0 Bt;clear aX K aP Bz Bt;obtain⟨cr,aB,bG⟩:=hr.out;go_wp2_with (first
    |(refine mP Qh (.tmp 5) 136 Qh (w.heap.size+2) (Z5 (.slice O d Q) (.slice I E J) (.slice B ZF.length C) (.slice j P.length q) ZF P) 136 ?lp (aL _) (L _) ?lb ?_)|(refine P0 Qh (.tmp 4) (.tmp 46) 136 Qh (w.heap.size+1) (Z5 (.slice O d Q) (.slice I E J) (.slice B ZF.length C) (.slice j P.length q) ZF P) cr.toList 136 ?sp ?sq (L _) ?sb ?sl (xK rfl rfl rfl rfl) ?_));case lp=>rfl
   case lb=>exact Bk
   case sb=>rw[Array.toArray_toList];exact aB
   case sl=>rw[CU,bG];rfl
   intro w2 aW aH bU;have bE:QB w w2:=ZS aF aH fun b e=>by have:=R' e;omega
   have bB:=tR p.out aH fun g' R S=>by have:=(p.out.lt g' R).1;have:=R' S;omega
   have bA:=tR m.out aH fun g' R S=>by have:=(m.out.lt g' R).1;have:=R' S;omega
   have aR:=w0 bB;have aQ:=w0 bA;clear Bk bB bA p m aH aB bG C0 F hr;go_wp2;refine r3 (v:=.agg (Z5 (.slice O d Q) (.slice I E J) (.slice B ZF.length C) (.slice j P.length q) ZF P).toArray) ?_ rfl ⟨⟨_,_,rfl,b2 (base:=w.heap.size) aR.out (jF _ 3),b2 (base:=w.heap.size) aQ.out (jF _ 3)⟩,bE⟩;have bH:(loadVar 136 ⟨w.heap.size+1,0,none⟩).run prog w2=.ok (.agg (Z5 (.slice O d Q) (.slice I E J) (.slice B ZF.length C) (.slice j P.length q) ZF P).toArray) w2:=x3 (aL _) (L _) aW;exact fT rfl rfl bH
end Go.Proofs
