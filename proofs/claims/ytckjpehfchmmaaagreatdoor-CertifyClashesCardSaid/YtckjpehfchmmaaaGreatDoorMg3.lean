import Derived.Test.YtckjpehfchmmaaaGreatDoorMg2
import Derived.Conc.TokenWalk
import Derived.Conc.CompanyWords
import Derived.Test.YtckjpehfchmmaaaGreatDoorProg
set_option linter.all false
def Qb{P:Prop}(h:P:=by kernel_rfl):P:=h
set_option maxRecDepth 100000
set_option maxHeartbeats 16000000
namespace Go
def Zyi:=@or_false
def hW:=@Frame.finish_at
def gV:=@Conc.lt_size_of_getElem?
def gX:=@Conc.getElem?_append_old
def gY:=@Conc.heard_old
def lF:=@Conc.offersAt_of_not_blocked
def Q7:=@Conc.deaf_old
def S8:=@Conc.getElem?_append_cases
def S9:=@Conc.touchAt_of
def sX:=@Conc.QuitsD.ctl
def mU:=@Conc.touch_of
def Ix:=@Conc.listed_none
def tF:=@List.countP_cons
def o0:=@Conc.getElem?_stand
def pB:=@Classical.not_forall
def pC:=@List.contains_eq_mem
def xY:=@Conc.offersAt_parked_recv
def xZ:=@Array.getElem?_append_right
def yB:=@Array.getElem?_ofFn
def yC:=@Array.sizeOf_getElem
def l4:=@Array.getElem?_mapIdx
def gN:=@Bool.not_eq_true'
def bK:=@List.all_eq_true
def iG:=@List.getElem?_eq_none_iff
def s0:=@List.mem_append
def ZAW:=@List.mem_cons
def cD:=@List.mem_filter
def e7:=@List.mem_of_getElem?
def T1:=@Nat.le_add_right
def iH:=@Nat.pos_of_ne_zero
def e6:=@Nat.zero_le
def hD:=@Option.map_some
def nK:=@Option.some.injEq
end Go
namespace Go.Twin
open Go.Conc (G)
section
variable {E:Env} {sh:Nat->Prop} {bs':List Frame}
structure Own2 (E:Env)(sh:Nat->Prop)(bs':List Frame)(f:Frame)(cs:List Frame)(l:World)(fa:Frame)(ca:List Frame)(B:Blk):Prop where
 st:ST E B [ZH E.P] bs' (f::cs) (fa::ca)
 wr:WR E ⟨sh,fun _=>True⟩ B l l
 low:∀b,sh b->b<l.heap.size
 idn:∀b b',B b b'->b=b'
def Own2.re{f c:Frame} {cs b:List Frame} {l:World} {B:Blk} (h:Own2 E sh bs' f cs l c b B)(t:Nat->Question->Nat)(d:Nat):Own2 E sh bs' f cs (l.re t d) c b B:=⟨h.st,h.wr.retape rfl rfl rfl fun _ _ _=>rfl,h.low,h.idn⟩
def OD(T:E.Fine)(V:E.junk=false) {f k:Frame} {cs i:List Frame} {l:World} {B:Blk} (h:Own2 E sh bs' f cs l k i B)(t:¬aH [ZH E.P] f cs)(Z:f.mode=.run->Chk E f) {n:Goroutine} {a:World} {q:Array Event} (d:stepG E.P true (G f cs) l=.go n a q):∃A j,n=G A j/\(PK a [ZH E.P] A j∨∃s r v y,B.le v/\Own2 E sh bs' A j a s r v/\stepG E.P true (G k i) l=.go (G s r) a y):=by
 have:=k7 T h.st h.wr h.low true true Z (lW h.st t) (.inl fun _=>trivial);rw[d]at this;rcases this with⟨A,j,rfl,u⟩|⟨A,j,s,r,e,y,v,W,rfl,L,m,N,X⟩;·exact⟨A,j,rfl,.inl u⟩
 .refine⟨A,j,rfl,.inr ?_⟩;have F:∀b g,v b g->b=g:=by
   intro b g p;rcases m.al b g p with x|⟨x1,x2,x3⟩;·exact h.idn _ _ x
   .omega
  have C:e.heap=a.heap:=by
   have U:e.heap.size=a.heap.size:=by have:=m.size.2.2;omega
   apply cC;intro b;by_cases p:∃g,v b g/\¬sh b;·obtain⟨g,p,d⟩:=p;obtain rfl:=F _ _ p;obtain⟨o,o',O,Q,R⟩:=m.wr.obj _ _ p d;rw[O,Q,R.eq V F]
   .have p:∀g,v b g->sh b:=fun g x=>gU fun d=>p ⟨g,x,d⟩;by_cases H:b<l.heap.size
    .rw[m.lkeep b H fun g x=>p g (m.le _ _ x)];exact m.keep b H fun c x=>by have:=h.idn _ _ x;subst this;exact p _ (m.le _ _ x)
    .by_cases I:b<a.heap.size;·obtain⟨g,x⟩:=m.cov b Qa I;exact absurd (h.low b (p g x)) H
     .rw[eK Qa,eK Qa]
  have K:e=a:=by obtain⟨J,M,S,s4⟩:=m.same;obtain⟨w,z,D,r4⟩:=m.lone;have Y:=m.draws;obtain⟨wh,wt,wd,wo,wx⟩:=e;obtain⟨lh,lt,ld,lo,lx⟩:=a;simp only at*;subst C J M S;rw[w,z,D];congr 1;omega
  subst K;exact⟨s,r,v,y,m.le,⟨N,m.wr.retape rfl rfl rfl fun _ _ _=>rfl,fun b p=>h8 (h.low b p) m.size.2.1,F⟩,L⟩
def FR.chk_other{B:Blk} {f a:Frame} (h:FR E B f a)(g:Chk E f):Chk E a:=by have j:=h.todo;unfold Chk at g |-;generalize f.todo=x at j g;generalize a.todo=m at j |-;cases j with|nil=>exact g|cons y y' k k' hy hs=>cases hy with|mark=>exact absurd rfl g|inRegion ops td ho=>cases td<;>exact g|code c hx=>cases c<;>exact g|_=>exact g
def FR.mode_run{B:Blk} {f a:Frame} (h:FR E B f a)(b:a.mode=.run):f.mode=.run:=by
 rcases h.mode with⟨c,g⟩|⟨c,g⟩;·exact c
 .rw[g]at b;cases b
variable {Stop Stop':Frame->List Frame->World->Prop}
def pD(J:E.Fine)(M:E.junk=false)(n:Halts Stop) {f:Frame} {cs:List Frame} {l:World} (S:LG E Stop f cs l):∀{B:Blk} {i:Frame} {b:List Frame},Own2 E sh bs' f cs l i b B->(∀{T:Blk} {V:Frame} {A:List Frame} {k:World} {H:Frame} {y:List Frame},Stop V A k->B.le T->Own2 E sh bs' V A k H y T->LG E Stop' H y k)->LG E Stop' i b l:=by induction S with
 |stop f cs l h=>intro B i b v Q;exact Q h (Blk.le_refl _) v|step f cs l hc hg hs ih=>
  intro B i b v Q;have R:¬aH [ZH E.P] f cs:=by
   intro R;obtain⟨F,m,a,C,c⟩:=hg l.tape l.drawn;rcases oY (l:=l.re l.tape l.drawn) v.st.head.kind.1 R with⟨o,x,C,s⟩|⟨q,N,l2,Y,s,I⟩;·rw[s]at c;cases c
   .exact tE n (hs _ _ _ _ _ _ s) I
  have K:∀t d,∃F m a C p j L r,stepG E.P true (G f cs) (l.re t d)=.go (G F m) a C/\B.le L/\Own2 E sh bs' F m a p j L/\stepG E.P true (G i b) (l.re t d)=.go (G p j) a r:=by
   intro t d;obtain⟨F,m,a,C,c⟩:=hg t d;obtain⟨q,N,e,W|⟨p,j,L,r,s,I,O⟩⟩:=OD J M (v.re t d) R hc c;·exfalso;simp only[G,hA,bQ]at e;obtain⟨rfl,rfl⟩:=e;exact tE n (hs _ _ _ _ _ _ c) (.inl W)
   .simp only[G,hA,bQ]at e;obtain⟨rfl,rfl⟩:=e;exact⟨_,_,_,_,_,_,_,_,c,s,I,O⟩
  refine .step i b l (fun U=>v.st.head.chk_other (hc (v.st.head.mode_run U))) (fun t d=>?_) fun t d g Z l1 X c=>?_;·obtain⟨_,_,a,_,p,j,_,r,_,_,_,h⟩:=K t d;exact⟨_,_,_,_,h⟩
  .obtain⟨F,m,a,C,p,j,L,r,s,I,O,u⟩:=K t d;rw[u]at c;simp only[cE,G,hA,bQ]at c;obtain⟨⟨rfl,rfl⟩,rfl,_⟩:=c;exact ih _ _ _ _ _ _ s O fun w z D=>Q w (Blk.le_trans I z) D
def yD{P:Program} {f c:Frame} {cs:List Frame} {w:World} {v:Value} (h:f.leaving P w (.returned v)):∃j,stepG P true (G f (c::cs)) w=.go (G (c.finish v) cs) w j:=by
 obtain⟨y,p,x,m,r,g⟩:=h;have A:((results m f.tmps).runT P w #[]).1=.ok v w:=by rw[Sem.runT_eq];exact g
 have:(stepG P true (G f (c::cs)) w).bare=.go (G (c.finish v) cs) w:=by simp[G,stepG,unwind,doReturn,y,p,x,r,g]
 generalize stepG P true (G f (c::cs)) w=s at this |-;cases s<;>simp at this;obtain⟨rfl,rfl⟩:=this;exact⟨_,rfl⟩
end
def Env.wide(E:Env)(good:FuncId->Bool)(junk:Bool)(tab:Code):Env:={E with good:=good,free:=true,junk:=junk,tab:=tab}
def OE{E:Env} {a:FuncId->Bool} {b:Bool} {e:Code} (h:∀f,E.good f=true->a f=true)(c:E.junk=true->b=true):Sub E (E.wide a b e):=⟨rfl,rfl,rfl,rfl,rfl,c,h,fun h=>h⟩
section
variable {E:Env} {sh:Nat->Prop}
def OF(K:E.junk=false) {S:Side} {B p:Blk} {l w a d:World} {C:Array Event} (h:Ran E S B l w p a d C)(v:w.heap=l.heap)(A:∀b,S b->b<l.heap.size)(s:∀b f,B b f->b=f):d.heap=a.heap/\∀b f,p b f->b=f:=by
 have j:∀b f,p b f->b=f:=by
  intro b f g;rcases h.al b f g with x|⟨Q,R,N⟩;·exact s _ _ x
  .rw[v]at N;omega
 refine⟨?_,j⟩;have L:d.heap.size=a.heap.size:=by have:=h.size.2.2;rw[v]at this;omega
 apply cC;intro b;by_cases g:∃f,p b f/\¬S b;·obtain⟨f,g,y⟩:=g;obtain rfl:=j _ _ g;obtain⟨o,O,F,H,I⟩:=h.wr.obj _ _ g y;rw[F,H,I.eq K j]
 .have g:∀f,p b f->S b:=fun f x=>gU fun y=>g ⟨f,x,y⟩;by_cases m:b<l.heap.size
  .rw[h.lkeep b m fun f x=>g f (h.le _ _ x),<-v];exact h.keep b (by rw[v];exact m) fun c x=>by have:=s _ _ x;subst this;exact g _ (h.le _ _ x)
  .by_cases r:b<a.heap.size;·obtain⟨f,x⟩:=h.cov b Qa r;exact absurd (A b (g f x)) m
   .rw[eK Qa,eK Qa]
def SR.retape(L:E.junk=false) {B:Blk} {s:Sem Value} {l:World} {v:Value} {t:Nat->Question->Nat} {d:Nat} (h:SR E (QV E) B s s)(i:WR E ⟨sh,fun _=>True⟩ B l l)(m:∀b,sh b->b<l.heap.size)(F:∀b g,B b g->b=g)(O:s.run E.P (l.re t d)=.ok v (l.re t d))(y:Nat->Question->Nat)(p:Nat):s.run E.P (l.re y p)=.ok v (l.re y p)/\∃c,B.le c/\(∀b g,c b g->b=g)/\WR E ⟨sh,fun _=>True⟩ c l l/\VR E c v v:=by
 have A:WR E ⟨sh,fun _=>False⟩ B (l.re t d) (l.re y p):=i.retape rfl rfl rfl fun _ _ x=>x.elim;have N:=h.both A m (by rw[O];exact fun j r H=>absurd H (dS.2 r));rw[O]at N;obtain⟨c,o,a,R,r,H,f,I⟩:=N;obtain⟨Q,K⟩:=OF L f rfl m F;have e:=VR.eq_of L K I;subst e;have C:a=l.re y p:=by obtain⟨T,V,Z,n⟩:=f.same;have k:=f.draws;obtain⟨u,z,q,w,D⟩:=a;simp only[World.re]at*;subst Q T V Z;congr 1;omega
 rw[C]at r f;exact⟨r,c,f.le,K,f.wr.retape rfl rfl rfl fun _ _ _=>rfl,I⟩
def Ret(P:Program) (R:Value->World->Prop) (f:Frame) (cs:List Frame) (l:World):Prop:=cs=[ZH P]/\∃v t d,f.leaving P (l.re t d) (.returned v)/\R v (l.re t d)
def Q9(P:Program)(R:Value->World->Prop):Halts (Ret P R):=⟨fun f cs l h=>by obtain⟨rfl,v,t,d,g,j⟩:=h;exact⟨Qd,fun c m=>by rw[g.1]at m;cases m⟩,fun f cs l t d h=>by obtain⟨r,v,s,p,g,j⟩:=h;exact⟨r,v,s,p,g,j⟩⟩
def OG(j:E.Fine)(hF:Strict E) {B:Blk} {g:FuncId} {a:Array Value} {l:World} {R:Value->World->Prop} (A:E.good g=true)(o:WR E ⟨sh,fun _=>True⟩ B l l)(f:∀b,sh b->b<l.heap.size)(c:∀b h,B b h->b=h)(k:AR E B a a)(x:∀t d,Calls E.P g a (l.re t d) fun e w=>∃v,e=.returned v/\R v w):LG E (Ret E.P R) (Frame.enter E.P g a .normal) [ZH E.P] l/\Own E sh [ZH E.P] (Frame.enter E.P g a .normal) [ZH E.P] l B:=by have m:Own E sh [ZH E.P] (Frame.enter E.P g a .normal) [ZH E.P] l B:=⟨.last _ _ (P9 j A k) rfl,o,f,c⟩;refine⟨Cl (s:=⟨Frame.enter E.P g a .normal,[ZH E.P],l⟩) j hF (Q9 E.P R) ⟨⟨B,m⟩,fun t d=>?_⟩,m⟩;obtain⟨e,i,p,⟨v,rfl,r⟩,⟨n,F⟩,y,C⟩:=x t d [ZH E.P];exact⟨n,p,[ZH E.P],i,F,rfl,v,i.tape,i.drawn,C,r⟩
end
section
variable {E:Env} {sh:Nat->Prop} {good:FuncId->Bool} {tab:Code} {Stop':Frame->List Frame->World->Prop}
def HK(hG:E.Fine)(hF:Strict E)(L:(E.wide good false tab).Fine)(A:∀f,E.good f=true->good f=true) {B:Blk} {g:FuncId} {args:Array Value} {l:World} {R:Value->World->Prop} (z:E.good g=true)(D:WR E ⟨sh,fun _=>True⟩ B l l)(V:∀b,sh b->b<l.heap.size)(T:∀b I,B b I->b=I)(u:AR E B args args)(hR:∀v w t d,R v w->R v (w.re t d))(hc:∀t d,Calls E.P g args (l.re t d) fun e w=>∃v,e=.returned v/\R v w)(c:Frame)(bs:List Frame)(k:∀v a H,R v a->B.le H->WR (E.wide good false tab) ⟨sh,fun _=>True⟩ H a a->(∀b,sh b->b<a.heap.size)->(∀b I,H b I->b=I)->VR (E.wide good false tab) H v v->LG (E.wide good false tab) Stop' (c.finish v) bs a):LG (E.wide good false tab) Stop' (Frame.enter E.P g args .normal) (c::bs) l:=by
 have F:Sub E (E.wide good false tab):=OE A fun h=>by rw[hF.junk]at h;cases h
 obtain⟨hL,hO⟩:=OG (R:=R) hG hF z D V T u hc;have J:=hL.sub F;have M:Own2 (E.wide good false tab) sh (c::bs) (Frame.enter E.P g args .normal) [ZH E.P] l (Frame.enter E.P g args .normal) (c::bs) B:=⟨.last _ _ (P9 (E:=E.wide good false tab) L (A g z) (F.ar u)) rfl,F.wr D,V,T⟩;refine pD (bs':=c::bs) L rfl (Q9 E.P R) J M ?_;rintro B₁ o aH Z r aF ⟨rfl,v,t,d,hl,hr⟩ U p;have s:=p.st;cases s with
 |cons f f' cs cs' hf _ hs=>cases hs with|cons _ _ _ _ _ _ h=>cases h
 |last _ _ hf hrd=>
  obtain⟨hm,hd,hk,fn,S,Q⟩:=hl;have n:o.tmps=r.tmps:=hf.tmps.eq (show (E.wide good false tab).junk=false from rfl) p.idn;have q:=hf.tmps;rw[<-n]at q;have y:=SR.retape (E:=E.wide good false tab) rfl (k6 fn q) p.wr p.low p.idn (t:=t) (d:=d) (v:=v) Q;have O:∀m j,r.leaving E.P (Z.re m j) (.returned v):=by
   intro m j;refine⟨?_,?_,(by
    rcases hf.kind.2 with h|⟨h,_⟩;·exact h
    .have C:E.dfr o.fn=true:=h;rw[hF.dfr]at C;cases C),fn,hf.fn▸S,?_⟩
   .rcases hf.mode with⟨K,C⟩|⟨K,C⟩;·rw[hm]at K;cases K
    .exact C
   .have:=hf.defers;rw[hd]at this;generalize r.defers=x at this |-;cases this;rfl
   .have h:=(y m j).1;rw[<-n];exact h
  have N:∀m j,∃i,stepG E.P true (G r (c::bs)) (Z.re m j)=.go (G (c.finish v) bs) (Z.re m j) i:=fun m j=>yD (O m j);refine .step _ _ _ (fun W=>?_) (fun m j=>?_) fun m j g1 aG l1 aI s=>?_;·exfalso;have:=(O t d).1;rw[W]at this;cases this
  .obtain⟨i,h⟩:=N m j;exact⟨_,_,_,_,h⟩
  .obtain⟨i,h⟩:=N m j;have X:stepG (E.wide good false tab).P true (G r (c::bs)) (Z.re m j)=.go (G (c.finish v) bs) (Z.re m j) i:=h;rw[X]at s;simp only[cE,G,hA,bQ]at s;obtain⟨⟨rfl,rfl⟩,rfl,_⟩:=s;obtain⟨H,K,C,Y,h4⟩:=(y m j).2;refine k v _ H ?_ (Blk.le_trans U K) (Y.retape rfl rfl rfl fun _ _ _=>rfl) p.low C h4;have:=hR _ _ m j hr;exact this
end
end Go.Twin
namespace Go.Twin
open Go.Conc
open Go.ConcN (upd upd_ne upd_same)
variable {a:Touch} {S:Side} {B:Blk} {e:Event}
structure Node where
 sh:Nat->Prop
 bs:List Frame
 B:Blk
 f:Frame
 cs:List Frame
 l:World
 stop:Frame->List Frame->World->Prop
def AtB(a:Touch)(x:Nat):Prop:=(∃c:Addr,a.loc=.cell c/\c.block=x)∨a.loc=.obj x
def lX(n:Node)(a:Touch):Prop:=∀b x,n.B b x->AtB a x->n.sh b/\a.write=false
def HL{x B:Nat} {m:MemAct} (b:m.touch?=some a)(f:m.low B)(h:AtB a x):x<B:=by cases m with
 |access e=>
  obtain⟨j,wr,p⟩:=e;simp only[MemAct.touch?,nK]at b;subst b;rcases h with⟨g,c,rfl⟩|c;·dsimp only at c;subst c;exact f
  .dsimp only at c;subst c;exact f|mark k=>cases k<;>simp only[MemAct.touch?,nK,reduceCtorEq]at b<;>subst b;all_goals
   rcases h with⟨g,c,rfl⟩|c;·cases c;exact f
   .cases c|_=>simp[MemAct.touch?]at b
def OH(h:aX S B e)(d:(MemAct.ofEvent e).touch?=some a):∃b x,B b x/\(∀y,AtB a y->y=x)/\AtB a x/\(a.write=true->¬S b):=by obtain⟨s,wr,v⟩:=e;cases s with
 |cell ad=>obtain⟨f,b,j,p⟩:=h;dsimp only at f;subst f;cases wr<;>simp only[MemAct.ofEvent,MemAct.touch?,nK]at d<;>subst d;all_goals
   refine⟨b,ad.block,j,?_,.inl ⟨ad,rfl,rfl⟩,p⟩;rintro y (⟨g,c,rfl⟩|c);·cases c;rfl
   .cases c|obj r=>obtain⟨f,b,j,p⟩:=h;dsimp only at f;subst f;cases wr<;>simp only[MemAct.ofEvent,MemAct.touch?,nK]at d<;>subst d;all_goals
   refine⟨b,r,j,?_,.inr rfl,fun _=>p⟩;rintro y (⟨g,c,rfl⟩|c);·cases c
   .cases c;rfl|mark m=>cases m<;>first|exact absurd h id|(simp[MemAct.ofEvent,MemAct.touch?]at d)
 |output=>exact h.elim|goroutines=>exact h.elim
def OI{d:Nat} (i:∀b x,B b x->x<d)(h:aX S B e):(MemAct.ofEvent e).low d:=by obtain⟨g,wr,p⟩:=e;cases g with
 |cell ad=>obtain⟨c,b,f,j⟩:=h;dsimp only at c;subst c;cases wr<;>exact i _ _ f|obj r=>obtain⟨c,b,f,j⟩:=h;dsimp only at c;subst c;cases wr<;>exact i _ _ f|mark m=>cases m<;>first|exact absurd h id|trivial
 |output=>exact h.elim|goroutines=>exact h.elim
def OJ(h:aX S B e):e.loc≠.mark .disable/\e.loc≠.mark .enable:=by obtain⟨c,wr,f⟩:=e;constructor<;>rintro rfl<;>exact h
structure Tr (M:Nat->Option Node)(S:Nat->Option Nat)(bnd:Nat)(t:Trace):Prop where
 clean:∀said,¬Race said t
 seen:∀op∈t,op.act.low bnd
 known:∀i a,touchAt t i=some a->a.loc.isMemory=true->∀j n,M j=some n->Knows t j i∨lX n a
 hand:∀i a,touchAt t i=some a->a.loc.isMemory=true->Knows t 0 i∨(∃k n,M k=some n/\Knows t k i)∨∃k p,S k=some p/\Before t i p
section
variable {M:Nat->Option Node} {S:Nat->Option Nat} {bnd bnd':Nat} {t u:Trace}
def Tr.mono(h:Tr M S bnd t)(hb:bnd<=bnd'):Tr M S bnd' t:=⟨h.clean,fun f c=>MemAct.low_mono hb (h.seen f c),h.known,h.hand⟩
def Tr.mute(h:Tr M S bnd t) {g:Nat} (d:∀f∈u,f.g=g)(K:∀f∈u,f.act.touch?=none)(N:∀f∈u,f.act.low bnd):Tr M S bnd (t++u):=by
 have r:∀i a,touchAt (t++u) i=some a->touchAt t i=some a:=by
  intro i a m;obtain⟨x,O,c⟩:=mU m;rcases S8 O with⟨_,F⟩|⟨_,H⟩;·rw[S9 F];exact c
  .rw[K x H]at c;cases c
 refine⟨fun s=>noRace_append (h.clean s) d fun i a _ f C b I _=>(by rw[K f C]at I;cases I),seen_app h.seen N,fun i a m A j n L=>?_,fun i a m A=>?_⟩;·exact(h.known i a (r i a m) A j n L).imp (·.app u) id
 .rcases h.hand i a (r i a m) A with x|⟨k,n,v,y⟩|⟨k,p,v,y⟩;·exact .inl (x.app u)
  .exact .inr (.inl ⟨k,n,v,y.app u⟩)
  .exact .inr (.inr ⟨k,p,v,y.app u⟩)
def mV{i:Nat} {a:Touch} (h:touchAt t i=some a):∃f,t[i]?=some f/\f.act.touch?=some a/\f∈t:=by obtain⟨x,g,c⟩:=mU h;exact⟨x,g,c,Go.Conc.mem_of_getElem? g⟩
def Tr.own{i:Nat} {n n':Node} (h:Tr M S bnd t)(hi:M i=some n)(aN:n.B.le n'.B)(aL:n'.sh=n.sh)(D:∀b x,n'.B b x->n.B b x∨bnd<=x)(aA:∀b x,n'.B b x->x<bnd')(hb:bnd<=bnd')(H:∀j m b c x,j≠i->M j=some m->n.B b x->m.B c x->n.sh b/\m.sh c)(aB:∀j m c x,M j=some m->m.B c x->x<bnd) {fn:FuncId} {pos:String} {es:Array Event} (aE:∀e∈es,aX ⟨n.sh,fun _=>True⟩ n'.B e):Tr (upd M i (some n')) S bnd' (t++MemOp.ofEvents i fn pos es):=by
 have hu:∀F∈MemOp.ofEvents i fn pos es,F.g=i:=fun F r=>by obtain⟨e,_,rfl⟩:=F9 r;rfl
 have ev:∀F∈MemOp.ofEvents i fn pos es,∀b,F.act.touch?=some b->∃c x,n'.B c x/\(∀y,AtB b y->y=x)/\AtB b x/\(b.write=true->¬n.sh c):=by intro F r b hb;obtain⟨e,he,rfl⟩:=F9 r;exact OH (aE e he) hb
 refine⟨fun aI=>noRace_append (h.clean aI) hu fun k a T F r b aK hc=>?_,seen_app (h.mono hb).seen fun F r=>?_,fun k a T d j m N=>?_,fun k a T d=>?_⟩
 .obtain⟨aF,aG,aM,_⟩:=hc;rcases h.known k a T aG i n hi with hk|hf;·exact hk
  .exfalso;obtain⟨c,x,I,K,E,G⟩:=ev F r b aK;have aC:AtB a x:=by unfold AtB at E |-;rw[aF];exact E
   obtain⟨R,aH,O,L⟩:=mV T;have Z:=HL O (h.seen R L) aC;rcases D c x I with C|C
   .obtain⟨J,U⟩:=hf c x C aC;rcases aM with V|V;·rw[U]at V;cases V
    .exact G V J
   .omega
 .obtain⟨e,he,rfl⟩:=F9 r;exact OI aA (aE e he)
 .obtain⟨x,Z,v⟩:=mU T;rcases S8 Z with⟨_,Q⟩|⟨_,A⟩
  .have s:touchAt t k=some a:=by rw[S9 Q];exact v
   by_cases f:j=i
   .subst f;rw[upd_same]at N;cases N;refine(h.known k a s d j n hi).imp (·.app _) fun hf b y hy aD=>?_;rcases D b y hy with C|C;·rw[aL];exact hf b y C aD
    .obtain⟨R,aH,O,L⟩:=mV s;have:=HL O (h.seen R L) aD;omega
   .rw[upd_ne _ _ f]at N;exact(h.known k a s d j m N).imp (·.app _) id
  .by_cases f:j=i;·subst f;exact .inl (by have:=knows_own Z;rw[hu x A]at this;exact this)
   .rw[upd_ne _ _ f]at N;obtain⟨c,y,I,K,E,G⟩:=ev x A a v;refine .inr fun b z hz aJ=>?_;obtain rfl:=K z aJ;rcases D c z I with C|C;·obtain⟨J,U⟩:=H j m c b z f N C hz;refine⟨U,?_⟩;cases V:a.write with|false=>rfl|true=>exact absurd J (G V)
    .have:=aB j m b z N hz;omega
 .obtain⟨x,Z,v⟩:=mU T;rcases S8 Z with⟨_,Q⟩|⟨_,A⟩
  .have s:touchAt t k=some a:=by rw[S9 Q];exact v
   rcases h.hand k a s d with y|⟨j,m,I,K⟩|⟨j,p,I,K⟩;·exact .inl (y.app _)
   .refine .inr (.inl ?_);by_cases f:j=i;·exact⟨i,n',upd_same _ _ _,f▸K.app _⟩
    .exact⟨j,m,by rw[upd_ne _ _ f];exact I,K.app _⟩
   .exact .inr (.inr ⟨j,p,I,K.app _⟩)
  .exact .inr (.inl ⟨i,n',upd_same _ _ _,by have:=knows_own Z;rw[hu x A]at this;exact this⟩)
end
structure Job where
 ch:Nat
 V:Value->Prop
 bs:List Frame
 stop:Frame->List Frame->World->Prop
inductive Zs|run|park (c:Nat)(zz:Value)
def bT(z:Zs)(i:Nat)(fa:Frame)(ca:List Frame):Goroutine:=match i,z with|0,.park c zz=>parked (G fa ca) #[rcase c zz] (.recv false)|_,_=>G fa ca
def TF(P:Program)(z:Zs)(n:Nat)(i:Nat)(d:Frame)(b:List Frame)(g:Goroutine):Prop:=(n=0/\g=bT z i d b)∨(0<i/\n=1/\g.status=.running/\∀w,stepG P false g w=.go (G d b) w #[])
structure Co (E:Env)(W0:World)(J:Nat->Option Job)(z:Zs)(M:Nat->Option Node)(S:Nat->Option Nat)(gs:Array Goroutine)(w:World)(t:Trace)(q:Nat->Nat):Prop where
 live:∀i n,M i=some n->∃fa ca g,gs[i]?=some g/\TF E.P z (q i) i fa ca g/\Rel E n.sh n.bs n.B n.f n.cs n.l fa ca w
 old:∀i g,0<i->M i=none->gs[i]?=some g->QuitsD E.P (q i) (Deaf t i) g
 deaf:∀i,(M i≠none∨gs.size<=i)->Deaf t i=0
 zero:M 0≠none
 apart:∀i j n m b c x,i≠j->M i=some n->M j=some m->n.B b x->m.B c x->n.sh b/\m.sh c
 tr:Tr M S w.heap.size t
 chanM:∀k j n,J k=some j->M k=some n->w.heap[j.ch]?=some (.chan 1 #[] false 0 0 false)
 chanS:∀k j p,J k=some j->S k=some p->∃v,j.V v/\w.heap[j.ch]?=some (.chan 1 #[v] false 1 0 false)/\(∃op,t[p]?=some op/\op.act=.send j.ch 0)/\t.heard p
 job:∀k,0<k->(M k≠none∨S k≠none)->∃j,J k=some j
 one:∀k k' j j',J k=some j->J k'=some j'->j.ch=j'.ch->k=k'
 fresh:∀k j,J k=some j->W0.heap.size<=j.ch
 excl:∀k p,S k=some p->M k=none/\0<k
 wait:∀c zz,z=.park c zz->∃k j n,0<k/\J k=some j/\j.ch=c/\M k=some n
 stops:∀k j n,0<k->J k=some j->M k=some n->n.stop=j.stop/\n.bs=j.bs
 base:∀i n b x,M i=some n->n.B b x->x<W0.heap.size->n.sh b
 keep:W0.heap.size<=w.heap.size/\∀x,x<W0.heap.size->w.heap[x]?=W0.heap[x]?
 same:w.os=W0.os/\w.output=W0.output/\w.tape=W0.tape
section
variable {E:Env} {W0:World} {J:Nat->Option Job} {z:Zs} {M:Nat->Option Node} {S:Nat->Option Nat} {gs:Array Goroutine} {w w':World} {t:Trace} {q:Nat->Nat} {sl:Option (Nat×Nat)}
def D5{n:Nat->Prop} {bs:List Frame} {B:Blk} {f fa:Frame} {cs ca:List Frame} {l:World} (h:Rel E n bs B f cs l fa ca w) {b x:Nat} (k:B b x):x<w.heap.size/\∀d g m s r y,w.heap[x]?≠some (.chan d g m s r y):=by
 refine⟨(h.wr.dom _ _ k).2,fun d g m s r y p=>?_⟩;by_cases v:n b;·obtain⟨c,F,T,f,A,j,_⟩:=h.wr.shr b x k v;rw[p]at j;cases j
 .obtain⟨o,H,A,j,C⟩:=h.wr.obj b x k v;rw[p]at j;cases j;cases C
def gG(r:E.sh=true) {d:Nat->Prop} {bs:List Frame} {B:Blk} {f fa:Frame} {cs ca:List Frame} {l:World} (h:Rel E d bs B f cs l fa ca w)(p:w.heap.size<=w'.heap.size)(s:∀b x,B b x->w'.heap[x]?=w.heap[x]?):Rel E d bs B f cs l fa ca w':=by
 obtain⟨v,c,y⟩:=h;refine⟨v,⟨c.fn,c.inj,fun b g j=>⟨(c.dom b g j).1,h8 (c.dom b g j).2 p⟩,fun b g j m=>?_,fun b g j m=>?_,fun _ _ x=>x.elim,c.glob,c.low,⟨c.gsz.1,l3 c.gsz.2 p⟩,fun m=>?_,c.dark⟩,y⟩;·rw[s b g j];exact c.obj b g j m
 .rw[s b g j];exact c.shr b g j m
 .rw[r]at m;cases m
def Co.at_(h:Co E W0 J z M S gs w t q)(d:Nat):Co E W0 J z M S gs (w.at d) t q:=⟨fun i n m=>let ⟨r,o,g,c,j,f⟩:=h.live i n m;⟨r,o,g,c,j,f.at_ d⟩,h.old,h.deaf,h.zero,h.apart,h.tr,h.chanM,h.chanS,h.job,h.one,h.fresh,h.excl,h.wait,h.stops,h.base,h.keep,h.same⟩
def pE{i:Nat} (f:0<i)(d:Frame)(b:List Frame):bT z i d b=G d b:=by cases i with|zero=>omega|succ i=>rfl
def Co.chan_free(h:Co E W0 J z M S gs w t q) {i:Nat} {n:Node} (k:M i=some n) {c d s r:Nat} {f:Array Value} {g v:Bool} (m:w.heap[c]?=some (.chan d f g s r v))(b:Nat):¬n.B b c:=by intro j;obtain⟨o,l,_,_,_,p⟩:=h.live i n k;exact(D5 p j).2 _ _ _ _ _ _ m
def OK{P:Program} {g l:Goroutine} {i:Nat} {k:Frame} {d:List Frame} (n:∀c b,z=.park c b->∃h f s r j,w'.heap[c]?=some (.chan h f false s r j)):woken P g l w' (bT z i k d)=bT z i k d:=by
 unfold bT;split;·rename_i c b;obtain⟨h,f,s,r,j,m⟩:=n c b rfl;exact woken_recv_open _ _ m
 .exact woken_run rfl
def TF.woken{P:Program} {g g':Goroutine} {n i:Nat} {d:Frame} {b:List Frame} {x:Goroutine} (h:TF P z n i d b x)(k:∀c l,z=.park c l->∃j f s r m,w'.heap[c]?=some (.chan j f false s r m)):Go.Conc.woken P g g' w' x=x:=by
 rcases h with⟨_,rfl⟩|⟨_,_,h,_⟩;·exact OK k
 .exact woken_run h
def F1{P:Program} {g b x:Goroutine} {i j:Nat} (c:j≠i):((gs.map (woken P g x w')).setIfInBounds i b)[j]?=(gs[j]?).map (woken P g x w'):=by rw[h2 (fun e=>c e.symm),aJ]
def Co.go(aS:E.sh=true)(h:Co E W0 J z M S gs w t q) {i:Nat} {n:Node} (U:M i=some n)(hz:i=0->z=.run)(aQ:q i=0) {fa K:Frame} {ca H:List Frame} (aN:gs[i]?=some (G fa ca)) {Z:Blk} {f':Frame} {I:List Frame} {l':World} (hR:Rel E n.sh n.bs Z f' I l' K H w')(hW:Went n.sh n.B n.l w Z l' w')(aU:w'.tape=w.tape) {es:Array Event} (aK:∀e∈es,aX ⟨n.sh,fun _=>True⟩ Z e)(aW:Rel E n.sh n.bs n.B n.f n.cs n.l fa ca w):Co E W0 J z (upd M i (some {n with B:=Z,f:=f',cs:=I,l:=l'})) S ((gs.map (woken E.P (G fa ca) (G K H) w')).setIfInBounds i (G K H)) w' (t++MemOp.ofEvents i fa.fn fa.place es) q:=by
 have aO:i<gs.size:=(bP.1 aN).1;have hu:∀op∈MemOp.ofEvents i fa.fn fa.place es,op.g=i:=fun op aP=>by obtain⟨e,_,rfl⟩:=F9 aP;rfl
 have aG:∀x,x<w.heap.size->(∀b,n.B b x->n.sh b)->w'.heap[x]?=w.heap[x]?:=hW.keep;have aI:∀{x:Nat} {o:Obj},w.heap[x]?=some o->x<w.heap.size:=fun h=>(bP.1 h).1;have aB:∀{c Y s r:Nat} {O:Array Value} {cl tm:Bool},w.heap[c]?=some (.chan Y O cl s r tm)->w'.heap[c]?=some (.chan Y O cl s r tm):=by intro c Y s r O cl tm L;rw[aG c (aI L) fun b F=>absurd F (h.chan_free U L b),L]
 have aA:∀b x,Z b x->n.B b x∨w.heap.size<=x:=fun b x F=>(hW.al b x F).imp id fun y=>y.2.1;have aT:((gs.map (woken E.P (G fa ca) (G K H) w')).setIfInBounds i (G K H)).size=gs.size:=Qd
 have aD:∀j m,j≠i->M j=some m->∀b x,m.B b x->w'.heap[x]?=w.heap[x]?:=by intro j m A C b x F;obtain⟨fj,cj,_,_,_,V⟩:=h.live j m C;exact aG x (D5 V F).1 fun c L=>(h.apart i j n m c b x (fun e=>A e.symm) U C L F).1
 have hM:∀j m,upd M i (some {n with B:=Z,f:=f',cs:=I,l:=l'}) j=some m->(j=i/\m={n with B:=Z,f:=f',cs:=I,l:=l'})∨(j≠i/\M j=some m):=by
  intro j m C;by_cases A:j=i;·subst A;rw[upd_same]at C;exact .inl ⟨rfl,(D3 C).symm⟩
  .rw[upd_ne _ _ A]at C;exact .inr ⟨A,C⟩
 have aM:∀j,upd M i (some {n with B:=Z,f:=f',cs:=I,l:=l'}) j=none->j≠i/\M j=none:=by
  intro j C;by_cases A:j=i;·subst A;rw[upd_same]at C;cases C
  .rw[upd_ne _ _ A]at C;exact⟨A,C⟩
 have aJ:∀j,upd M i (some {n with B:=Z,f:=f',cs:=I,l:=l'}) j≠none->M j≠none:=by
  intro j C;by_cases A:j=i;·subst A;rw[U];simp
  .rwa [upd_ne _ _ A]at C
 have aV:∀c zz,z=.park c zz->∃Y O s r tm,w'.heap[c]?=some (.chan Y O false s r tm):=by intro c zz aH;obtain⟨k,j,m,Q,h2,rfl,h4⟩:=h.wait c zz aH;exact⟨_,_,_,_,_,aB (h.chanM k j m h2 h4)⟩
 refine⟨fun j m C=>?_,fun j x C N hx=>?_,fun j C=>?_,?_,fun j k m m' b c x aC C R F L=>?_,?_,fun k j m R N=>?_,fun k j p R hp=>?_,fun k R N=>?_,h.one,h.fresh,fun k p hp=>?_,fun c zz aH=>?_,fun k j m R C N=>?_,fun j m b x C F hx=>?_,?_,⟨hW.same.1.trans h.same.1,hW.same.2.trans h.same.2.1,aU.trans h.same.2.2⟩⟩
 .rcases hM j m C with⟨rfl,rfl⟩|⟨A,C⟩
  .refine⟨K,H,G K H,?_,.inl ⟨aQ,?_⟩,hR⟩;·rw[bR (by simpa using aO)]
   .unfold bT;split;·rename_i c zz;cases hz rfl
    .rfl
  .obtain⟨fj,cj,x,Q,h3,h2⟩:=h.live j m C;refine⟨fj,cj,x,?_,h3,gG aS h2 hW.size.1 (aD j m A C)⟩;rw[F1 A,Q,hD,h3.woken aV]
 .obtain⟨A,N⟩:=aM j N;rw[F1 A]at hx;obtain⟨y,hy,rfl⟩:=n2.1 hx;have hq:=h.old j y C N hy;rw[iF hq,Q5 t (fun e=>A e.symm) _ hu];exact hq
 .have h0:=h.deaf j (C.imp (aJ j) fun x=>by rwa [aT]at x);by_cases A:j=i;·subst A;rw[Deaf_own,h0];exact deafBehind_still (fun e he=>OJ (aK e he)) _
  .rw[Q5 t (fun e=>A e.symm) _ hu];exact h0
 .by_cases h0:0=i;·subst h0;rw[upd_same];simp
  .rw[upd_ne _ _ h0];exact h.zero
 .rcases hM j m C with⟨e1,rfl⟩|⟨A,aE⟩<;>rcases hM k m' R with⟨e2,rfl⟩|⟨T,aF⟩;·exact absurd (e1.trans e2.symm) aC
  .subst e1;obtain⟨fk,ck,_,_,_,aR⟩:=h.live k m' aF;rcases aA b x F with h5|h5;·exact h.apart j k n m' b c x aC U aF h5 L
   .have:=(D5 aR L).1;omega
  .subst e2;obtain⟨fj,cj,_,_,_,V⟩:=h.live j m aE;rcases aA c x L with h5|h5;·exact h.apart j k m n b c x aC aE U F h5
   .have:=(D5 V F).1;omega
  .exact h.apart j k m m' b c x aC aE aF F L
 .refine h.tr.own (n':={n with B:=Z,f:=f',cs:=I,l:=l'}) U hW.le rfl aA (fun b x F=>(D5 hR F).1) hW.size.1 (fun j m b c x A C F L=>h.apart i j n m b c x (fun e=>A e.symm) U C F L) (fun j m c x C L=>?_) aK;obtain⟨fj,cj,_,_,_,V⟩:=h.live j m C;exact(D5 V L).1
 .rcases hM k m N with⟨rfl,rfl⟩|⟨T,N⟩;·exact aB (h.chanM k j n R U)
  .exact aB (h.chanM k j m R N)
 .obtain⟨v,Q,h2,⟨op,h3,h4⟩,h5⟩:=h.chanS k j p R hp;have aL:=gV h3;exact⟨v,Q,aB h2,⟨op,by rw[gX aL];exact h3,h4⟩,(gY aL).2 h5⟩
 .exact h.job k R (N.imp (aJ k) id)
 .obtain⟨Q,h2⟩:=h.excl k p hp;refine⟨?_,h2⟩;have:k≠i:=by rintro rfl;rw[U]at Q;cases Q
  rw[upd_ne _ _ this];exact Q
 .obtain⟨k,j,m,Q,h2,h3,h4⟩:=h.wait c zz aH;by_cases T:k=i;·exact⟨k,j,_,Q,h2,h3,by rw[T,upd_same]⟩
  .exact⟨k,j,m,Q,h2,h3,by rw[upd_ne _ _ T];exact h4⟩
 .rcases hM k m N with⟨rfl,rfl⟩|⟨T,N⟩;·exact h.stops k j n R C U
  .exact h.stops k j m R C N
 .rcases hM j m C with⟨rfl,rfl⟩|⟨A,C⟩
  .rcases aA b x F with h5|h5;·exact h.base j n b x U h5 hx
   .have:=h.keep.1;omega
  .exact h.base j m b x C F hx
 .refine⟨l3 h.keep.1 hW.size.1,fun x hx=>?_⟩;rw[aG x (h8 hx h.keep.1) fun b F=>h.base i n b x U F hx];exact h.keep.2 x hx
def Co.leaver(h:Co E W0 J z M S gs w t q) {i k:Nat} {g b:Goroutine} (aE:0<i)(hm:M i=none)(hg:gs[i]?=some g) {d:Array Event} (K:∀e∈d,e.mute=true)(hq:QuitsD E.P k (deafBehind (Deaf t i) d) b):Co E W0 J z M S ((gs.map (woken E.P g b w)).setIfInBounds i b) w (t++MemOp.ofEvents i g.frame.fn g.frame.place d) (upd q i k):=by
 have D:i<gs.size:=(bP.1 hg).1;have o:∀F∈MemOp.ofEvents i g.frame.fn g.frame.place d,F.g=i:=fun F C=>by obtain⟨e,_,rfl⟩:=F9 C;rfl
 have Q:((gs.map (woken E.P g b w)).setIfInBounds i b).size=gs.size:=Qd
 have U:∀c u,z=.park c u->∃Z V s r tm,w.heap[c]?=some (.chan Z V false s r tm):=by intro c u W;obtain⟨k,j,m,R,H,rfl,l⟩:=h.wait c u W;exact⟨_,_,_,_,_,h.chanM k j m H l⟩
 have L:∀j,M j≠none->j≠i:=by rintro j A rfl;exact A hm
 refine⟨fun j m A=>?_,fun j x A G T=>?_,fun j A=>?_,h.zero,h.apart,?_,h.chanM,fun k j p hk hp=>?_,h.job,h.one,h.fresh,h.excl,h.wait,h.stops,h.base,h.keep,h.same⟩;·obtain⟨Y,X,x,R,I,H⟩:=h.live j m A;have f:=L j (by rw[A];simp);refine⟨Y,X,x,?_,by rw[upd_ne _ _ f];exact I,H⟩;rw[F1 f,R,hD,I.woken U]
 .by_cases f:j=i;·subst f;rw[bR (by simpa using D)]at T;obtain rfl:=D3 T;rw[upd_same,Deaf_own];exact hq
  .rw[F1 f]at T;obtain⟨y,hy,rfl⟩:=n2.1 T;have O:=h.old j y A G hy;rw[iF O,upd_ne q k f,Q5 t (fun e=>f e.symm) _ o];exact O
 .have f:j≠i:=by
   rcases A with A|A;·exact L j A
   .rw[Q]at A;omega
  rw[Q5 t (fun e=>f e.symm) _ o];exact h.deaf j (A.imp id fun x=>by rwa [Q]at x)
 .refine h.tr.mute o (fun F C=>?_) fun F C=>?_;·obtain⟨e,n,rfl⟩:=F9 C;exact touch_mute (K e n)
  .obtain⟨e,n,rfl⟩:=F9 C;exact low_mute (K e n) _
 .obtain⟨v,R,H,⟨F,I,l⟩,h5⟩:=h.chanS k j p hk hp;have N:=gV I;exact⟨v,R,H,⟨F,by rw[gX N];exact I,l⟩,(gY N).2 h5⟩
def Co.born(h:Co E W0 J z M S gs w t q) {i:Nat} {n:Node} {g:Goroutine} {d:Frame} {b:List Frame} (C:0<i)(u:M i=some n)(X:gs[i]?=some g)(W:Rel E n.sh n.bs n.B n.f n.cs n.l d b w):Co E W0 J z M S ((gs.map (woken E.P g (G d b) w)).setIfInBounds i (G d b)) w t (upd q i 0):=by
 have L:i<gs.size:=(bP.1 X).1;have N:((gs.map (woken E.P g (G d b) w)).setIfInBounds i (G d b)).size=gs.size:=Qd
 have O:∀c o,z=.park c o->∃I H s r tm,w.heap[c]?=some (.chan I H false s r tm):=by intro c o Q;obtain⟨k,j,m,R,K,rfl,U⟩:=h.wait c o Q;exact⟨_,_,_,_,_,h.chanM k j m K U⟩
 refine⟨fun j m v=>?_,fun j x v A V=>?_,fun j v=>?_,h.zero,h.apart,h.tr,h.chanM,h.chanS,h.job,h.one,h.fresh,h.excl,h.wait,h.stops,h.base,h.keep,h.same⟩
 .by_cases p:j=i;·subst p;rw[u]at v;cases v;refine⟨d,b,G d b,by rw[bR (by simpa using L)],.inl ⟨upd_same _ _ _,(pE C _ _).symm⟩,W⟩
  .obtain⟨D,Z,x,R,T,K⟩:=h.live j m v;refine⟨D,Z,x,?_,by rw[upd_ne _ _ p];exact T,K⟩;rw[F1 p,R,hD,T.woken O]
 .have p:j≠i:=by rintro rfl;rw[u]at A;cases A
  rw[F1 p]at V;obtain⟨y,Y,rfl⟩:=n2.1 V;have F:=h.old j y v A Y;rw[iF F,upd_ne q 0 p];exact F
 .exact h.deaf j (v.imp id fun x=>by rwa [N]at x)
end
section
variable {E:Env} {W0:World} {J:Nat->Option Job} {z:Zs} {M:Nat->Option Node} {S:Nat->Option Nat} {gs:Array Goroutine} {w w':World} {t u:Trace} {q:Nat->Nat} {sl:Option (Nat×Nat)}
def x8{c b s r:Nat} {f:Array Value} {g h:Bool} {x:Nat} (d:x≠c):(w.setChan c b f g s r h).heap[x]?=w.heap[x]?:=by simp[World.setChan,h2 (fun e:c=x=>d e.symm)]
def OL{c b s r:Nat} {f:Array Value} {g h:Bool} {o:Obj} (j:w.heap[c]?=some o):(w.setChan c b f g s r h).heap[c]?=some (.chan b f g s r h):=by have:=(bP.1 j).1;simp[World.setChan,this]
def iO{α:Type} {f:Nat->Option α} {k j:Nat} {n:α} (h:upd f k none j=some n):j≠k/\f j=some n:=by
 by_cases e:j=k;·subst e;rw[upd_same]at h;cases h
 .rw[upd_ne _ _ e]at h;exact⟨e,h⟩
def Co.status(h:Co E W0 J z M S gs w t q) {i:Nat} {g:Goroutine} (r:gs[i]?=some g):g.status=.running∨g.status=.finished∨(i=0/\∃c f l d,z=.park c f/\g=parked (G l d) #[rcase c f] (.recv false)):=by cases m:M i with
 |none=>have s:0<i:=iH fun e=>h.zero (e▸m);exact(h.old i g s m r).status.imp id .inl|some n=>
  obtain⟨l,d,x,p,j,_⟩:=h.live i n m;rw[r]at p;obtain rfl:=D3 p;rcases j with⟨_,rfl⟩|⟨_,_,j,_⟩;case inr=>exact .inl j
  unfold bT;split;·rename_i c f _;exact .inr (.inr ⟨rfl,c,f,l,d,rfl,rfl⟩)
  .exact .inl rfl
def Co.offers(h:Co E W0 J z M S gs w t q)(k:Nat) {c:Nat} (p:∀b,z≠.park c b):partners (gs.setIfInBounds k ph) c false=[]:=by
 refine partners_nil fun j g m=>?_;rcases o0 gs k j g m with⟨rfl,rfl⟩|⟨r,m⟩;·rfl
 .rcases h.status m with f|f|⟨_,v,b,l,d,s,rfl⟩;·exact lF (by rw[f];simp) _ _
  .exact lF (by rw[f];simp) _ _
  .rw[xY,q'];rintro rfl;exact p b s
def K4(g:Nat)(fn:FuncId)(pos:String):MemOp.ofEvents g fn pos #[]=#[]:=by rw[ofEvents_eq];simp
def yE{i g:Nat} {y:MemOp} (h:Knows t g i)(c:y.g=g)(b:u[0]?=some y):Before (t++u) i t.size:=.inr (h.hb_new (r3 _) (by rw[xZ (r3 _)];simpa using b) c)
def K0{i:Nat} {y:MemOp} (h:u[i]?=some y):(t++u)[t.size+i]?=some y:=by rw[xZ (T1 _ _)];simpa using h
def LS(t:Trace)(g:Nat)(u:Trace)(h:∀f∈u,f.act≠.mark .disable/\f.act≠.mark .enable):Deaf (t++u) g=Deaf t g:=by obtain⟨l⟩:=u;rw[Deaf_append];generalize Deaf t g=d;induction l generalizing d with
 |nil=>rfl|cons y l ih=>
  rw[List.foldl_cons];have e:deafStep g d y=d:=by
   obtain⟨m,p⟩:=h y Qd;unfold deafStep;split;·rename_i j;exact absurd j m
   .rename_i j;exact absurd j p
   .rfl
  rw[e];exact ih (fun f c=>h f (by simp at c |-;exact .inr c)) d
def Co.send(aM:E.sh=true)(h:Co E W0 J z M S gs w t q) {k m:Nat} {n:Node} {j:Job} (aJ:0<k)(R:M k=some n)(L:J k=some j)(hz:∀D,z≠.park j.ch D) {v:Value} (hv:j.V v) {g₂:Goroutine} (hq:QuitsD E.P m 0 (Go.Conc.served g₂ undef)) {fn:FuncId} {pos:String}:Co E W0 J z (upd M k none) (upd S k (some t.size)) (gs.setIfInBounds k (Go.Conc.served g₂ undef)) (w.setChan j.ch 1 #[v] false 1 0 false) (t++#[{g:=k,fn,pos,act:=.send j.ch 0},{g:=k,fn,pos,act:=.sendDone j.ch 0}]) (upd q k m):=by
 have X:=h.chanM k j n L R;have aA:j.ch<w.heap.size:=(bP.1 X).1;have o:∀C∈(#[{g:=k,fn,pos,act:=.send j.ch 0},{g:=k,fn,pos,act:=.sendDone j.ch 0}]:Trace),C.g=k:=Qd
 have Y:∀C∈(#[{g:=k,fn,pos,act:=.send j.ch 0},{g:=k,fn,pos,act:=.sendDone j.ch 0}]:Trace),C.act.touch?=none:=by simp[MemAct.touch?]
 have hl:∀C∈(#[{g:=k,fn,pos,act:=.send j.ch 0},{g:=k,fn,pos,act:=.sendDone j.ch 0}]:Trace),C.act.low w.heap.size:=by simp[MemAct.low,aA]
 have aC:∀C∈(#[{g:=k,fn,pos,act:=.send j.ch 0},{g:=k,fn,pos,act:=.sendDone j.ch 0}]:Trace),C.act≠.mark .disable/\C.act≠.mark .enable:=Qd
 have l:(#[{g:=k,fn,pos,act:=.send j.ch 0},{g:=k,fn,pos,act:=.sendDone j.ch 0}]:Trace)[0]?=some {g:=k,fn,pos,act:=.send j.ch 0}:=rfl;generalize (#[{g:=k,fn,pos,act:=.send j.ch 0},{g:=k,fn,pos,act:=.sendDone j.ch 0}]:Trace)=u at o Y hl aC l |-;obtain⟨fk,ck,gk,aH,aP,aO⟩:=h.live k n R;have aK:k<gs.size:=(bP.1 aH).1;have hd:Deaf t k=0:=h.deaf k (.inl (by rw[R];simp));have aB:∀{i:Nat} {m:Node} {b x:Nat},M i=some m->m.B b x->x≠j.ch:=by intro i m b x r Z e;exact h.chan_free r X b (e▸Z)
 have aN:=h.fresh k j L;have W:=h.tr.mute o Y hl;have F:(w.setChan j.ch 1 #[v] false 1 0 false).heap.size=w.heap.size:=by simp[World.setChan]
 refine⟨fun i m r=>?_,fun i x r s I=>?_,fun i r=>?_,?_,fun a b m m' c d x aG T Z=>h.apart a b m m' c d x aG (iO T).2 (iO Z).2,⟨W.clean,by rw[F];exact W.seen,fun i a T s x m I=>W.known i a T s x m (iO I).2,fun i a T s=>?_⟩,fun i H m r s=>?_,fun i H p r N=>?_,fun i r s=>?_,h.one,h.fresh,fun i p N=>?_,fun c D aF=>?_,fun i H m r aI s=>h.stops i H m r aI (iO s).2,fun i m b x s=>h.base i m b x (iO s).2,?_,h.same⟩;·obtain⟨f,r⟩:=iO r;obtain⟨fi,ci,x,A,K,y⟩:=h.live i m r;exact⟨fi,ci,x,by rw[h2 (fun e=>f e.symm)];exact A,by rw[upd_ne _ _ f];exact K,gG aM y (by rw[F];exact r3 _) fun b x Z=>x8 (aB r Z)⟩
 .by_cases f:i=k
  .subst f;rw[bR aK]at I;obtain rfl:=D3 I;have e:Deaf (t++u) i=0:=by rw[LS t i u aC];exact hd
   rw[upd_same,e];exact hq
  .rw[h2 (fun e=>f e.symm)]at I;rw[upd_ne _ _ f]at s;have:=h.old i x r s I;rw[upd_ne _ _ f,Q5 t (fun e=>f e.symm) _ o];exact this
 .have f:i≠k:=by
   rintro rfl;rcases r with r|r;·rw[upd_same]at r;exact r rfl
   .simp at r;omega
  rw[Q5 t (fun e=>f e.symm) _ o];refine h.deaf i (r.imp (fun x=>?_) fun x=>by simpa using x);rwa [upd_ne _ _ f]at x
 .rw[upd_ne _ _ Qa];exact h.zero
 .obtain⟨C,aL,O,_⟩:=mV T;have aD:i<t.size/\touchAt t i=some a:=by
   rcases S8 aL with⟨A,y⟩|⟨_,y⟩;·exact⟨A,by rw[S9 y];exact O⟩
   .rw[Y C y]at O;cases O
  rcases h.tr.hand i a aD.2 s with x|⟨Q,m,A,y⟩|⟨Q,p,A,y⟩;·exact .inl (x.app u)
  .by_cases f:Q=k;·subst f;exact .inr (.inr ⟨Q,t.size,upd_same _ _ _,yE y rfl l⟩)
   .exact .inr (.inl ⟨Q,m,by rw[upd_ne _ _ f];exact A,y.app u⟩)
  .refine .inr (.inr ⟨Q,p,?_,y.app u⟩);have:Q≠k:=by rintro rfl;rw[(h.excl Q p A).1]at R;cases R
   rw[upd_ne _ _ this];exact A
 .obtain⟨f,s⟩:=iO s;rw[x8];·exact h.chanM i H m r s
  .exact fun e=>f (h.one i k H j r L e)
 .by_cases f:i=k
  .subst f;rw[upd_same]at N;cases N;rw[L]at r;cases r;refine⟨v,hv,OL X,⟨_,by have:=K0 (t:=t) l;simpa using this,rfl⟩,?_⟩;refine⟨i,?_,?_⟩;·have:=K0 (t:=t) l;simp only[sW]at this;simp[Trace.g?,this]
   .rw[Q7 (r3 _)];exact hd
  .rw[upd_ne _ _ f]at N;obtain⟨v',A,y,⟨C,K,U⟩,h5⟩:=h.chanS i H p r N;have aE:=gV K;exact⟨v',A,by rw[x8 fun e=>f (h.one i k H j r L e)];exact y,⟨C,by rw[gX aE];exact K,U⟩,(gY aE).2 h5⟩
 .by_cases f:i=k;·subst f;exact⟨j,L⟩
  .rw[upd_ne _ _ f,upd_ne _ _ f]at s;exact h.job i r s
 .by_cases f:i=k;·subst f;exact⟨upd_same _ _ _,aJ⟩
  .rw[upd_ne _ _ f]at N;rw[upd_ne _ _ f];exact h.excl i p N
 .obtain⟨i,H,m,A,y,K,U⟩:=h.wait c D aF;refine⟨i,H,m,A,y,K,?_⟩;have:i≠k:=by rintro rfl;rw[L]at y;cases y;exact hz D (K▸aF)
  rw[upd_ne _ _ this];exact U
 .rw[F];exact⟨h.keep.1,fun x I=>by rw[x8 Qa];exact h.keep.2 x I⟩
end
section
variable {E:Env} {W0:World} {J:Nat->Option Job} {z:Zs} {M:Nat->Option Node} {S:Nat->Option Nat} {gs:Array Goroutine} {w w':World} {t u:Trace} {q:Nat->Nat} {sl:Option (Nat×Nat)}
def Zm:∀(l:List MemOp) {t:Trace} {b:Nat},Tr M S b t->(∀c∈l,c.act.touch?=none/\c.act.low b)->Tr M S b (t++l.toArray)
 |[],t,b,h,_=>by simpa using h|x::l,t,b,h,hl=>by
  have e:t++(x::l).toArray=(t++#[x])++l.toArray:=Qd
  rw[e];exact Zm l (h.mute (g:=x.g) Qd (by simp[(hl x Qd).1]) (by simp[(hl x Qd).2])) fun c f=>hl c (by simp[f])
def mW(j:∀h∈u,h.act.touch?=none) {i:Nat} {a:Touch} (b:touchAt (t++u) i=some a):touchAt t i=some a:=by
 obtain⟨h,g,c,_⟩:=mV b;rcases S8 g with⟨m,f⟩|⟨_,f⟩;·rw[S9 f];exact c
 .rw[j h f]at c;cases c
def yF{c p r g:Nat} {x y:MemOp} (d:t[p]?=some x)(f:x.act=.send c 0)(h:t.heard p)(v:t[r]?=some y)(j:y.act=.recvDone c 0)(m:y.g=g)(s:t.heard r) {i:Nat} (b:Before t i p):Knows t g i:=⟨r,y,v,m,.inr (b.hb (.single (.inr ⟨.handOver (c:=c) (k:=0) (by simp[Trace.act?,d,f]) (by simp[Trace.act?,v,j]),h,s⟩)))⟩
def lY{g i:Nat} {y:MemOp} (f:t[i]?=some y)(c:y.g=g)(b:t.deaf g i=0):t.heard i:=⟨g,by simp[Trace.g?,f,c],b⟩
def Co.meet(aO:E.sh=true) {k m:Nat} {n I:Node} {j:Job} {zz:Value} (h:Co E W0 J (.park j.ch zz) M S gs w t q)(bE:0<k)(hM:M k=some n)(Z:M 0=some I)(hj:J k=some j) {v:Value} (hv:bH 8 v=true) {Y:Frame} {X:List Frame} (aT:gs[0]?=some (parked (G Y X) #[rcase j.ch zz] (.recv false))) {g₂:Goroutine} (hq:QuitsD E.P m 0 (Go.Conc.served g₂ undef)) {fn fn':FuncId} {pos pos':String}:Co E W0 J .run (upd (upd M k none) 0 (some {I with f:=I.f.finish v})) S ((gs.setIfInBounds 0 (G (Y.finish v) X)).setIfInBounds k (Go.Conc.served g₂ undef)) (w.setChan j.ch 1 #[] false 1 1 false)
   (t++#[{g:=k,fn,pos,act:=.send j.ch 0},{g:=0,fn:=fn',pos:=pos',act:=.recv j.ch 0 1},{g:=k,fn,pos,act:=.sendDone j.ch 0},{g:=0,fn:=fn',pos:=pos',act:=.recvDone j.ch 0}]) (upd q k m):=by
 have hc:=h.chanM k j n hj hM;have aH:j.ch<w.heap.size:=(bP.1 hc).1;have hk:k≠0:=Qa
 obtain⟨fk,ck,gk,aU,bG,bF⟩:=h.live k n hM;have aW:k<gs.size:=(bP.1 aU).1;have aL:0<gs.size:=Qa
 have aJ:Deaf t k=0:=h.deaf k (.inl (by rw[hM];simp));have aI:Deaf t 0=0:=h.deaf 0 (.inl (by rw[Z];simp));have aE:∀{i:Nat} {m:Node} {b x:Nat},M i=some m->m.B b x->x≠j.ch:=by intro i m b x s o e;exact h.chan_free s hc b (e▸o)
 have bD:=h.fresh k j hj;have R:(w.setChan j.ch 1 #[] false 1 1 false).heap.size=w.heap.size:=by simp[World.setChan]
 generalize Q:({g:=k,fn,pos,act:=.send j.ch 0}:MemOp)=H;generalize aC:({g:=0,fn:=fn',pos:=pos',act:=.recv j.ch 0 1}:MemOp)=K;generalize aD:({g:=k,fn,pos,act:=.sendDone j.ch 0}:MemOp)=L;generalize T:({g:=0,fn:=fn',pos:=pos',act:=.recvDone j.ch 0}:MemOp)=N;have hT:Tr M S w.heap.size (t++#[H,K,L,N]):=Zm [H,K,L,N] h.tr (by simp[<-Q,<-aC,<-aD,<-T,MemAct.touch?,MemAct.low,aH]);have hn:∀op∈(#[H,K,L,N]:Trace),op.act.touch?=none:=by simp[<-Q,<-aC,<-aD,<-T,MemAct.touch?]
 have aX:∀op∈(#[H,K,L,N]:Trace),op.act≠.mark .disable/\op.act≠.mark .enable:=by simp[<-Q,<-aC,<-aD,<-T]
 have aY:∀op∈(#[H,K,L]:Trace),op.act≠.mark .disable/\op.act≠.mark .enable:=by simp[<-Q,<-aC,<-aD]
 have g0:(t++#[H,K,L,N])[t.size]?=some H:=by have:=K0 (t:=t) (u:=#[H,K,L,N]) (i:=0) rfl;rwa [sW]at this
 have g3:(t++#[H,K,L,N])[t.size+3]?=some N:=K0 (t:=t) (u:=#[H,K,L,N]) (i:=3) rfl;have e3:t++#[H,K,L,N]=(t++#[H,K,L])++#[N]:=Qd
 have d3:(t++#[H,K,L,N]).deaf 0 (t.size+3)=0:=by
  rw[e3,Q7 Qd];have:(t++#[H,K,L]).size=t.size+3:=Qd
  rw[<-this];exact(LS t 0 _ aY).trans aI
 have d0:(t++#[H,K,L,N]).deaf k t.size=0:=by rw[Q7 (r3 _)];exact aJ
 have hD:∀g,Deaf (t++#[H,K,L,N]) g=Deaf t g:=fun g=>LS t g _ aX;have aF:∀i,Before (t++#[H,K,L,N]) i t.size->Knows (t++#[H,K,L,N]) 0 i:=fun i s=>yF (c:=j.ch) g0 (by rw[<-Q]) (lY g0 (by rw[<-Q]) d0) g3 (by rw[<-T]) (by rw[<-T]) (lY g3 (by rw[<-T]) d3) s;have hS:∀i p,S i=some p->i≠k:=by rintro i p W rfl;rw[(h.excl i p W).1]at hM;cases hM
 obtain⟨aR,aP,x',aK,aG,aZ⟩:=h.live 0 I Z;rw[aT]at aK;rcases aG with⟨aN,aG⟩|⟨bB,_⟩;case inr=>omega
 have he:=(D3 aK).trans aG;have aQ:Y=aR/\X=aP:=by simp only[bT,parked,G,hA,bQ]at he;exact⟨he.1,he.2⟩
 obtain⟨rfl,rfl⟩:=aQ;have aB:∀i m,upd (upd M k none) 0 (some {I with f:=I.f.finish v}) i=some m->(i=0/\m={I with f:=I.f.finish v})∨(i≠0/\i≠k/\M i=some m):=by
  intro i m s;by_cases A:i=0;·subst A;rw[upd_same]at s;exact .inl ⟨rfl,(D3 s).symm⟩
  .rw[upd_ne _ _ A]at s;exact .inr ⟨A,(iO s).1,(iO s).2⟩
 have aA:∀i m,upd (upd M k none) 0 (some {I with f:=I.f.finish v}) i=some m->∃m',M i=some m'/\m'.B=m.B/\m'.sh=m.sh:=by
  intro i m s;rcases aB i m s with⟨rfl,rfl⟩|⟨_,_,s⟩;·exact⟨I,Z,rfl,rfl⟩
  .exact⟨m,s,rfl,rfl⟩
 refine⟨fun i m s=>?_,fun i x s F D=>?_,fun i s=>?_,by rw[upd_same];simp,fun a b m m' c d x aS ha o hc hd=>?_,⟨hT.clean,by rw[R];exact hT.seen,fun i a ha F x m D=>?_,fun i a ha F=>?_⟩,fun i U m s F=>?_,fun i U p s W=>?_,fun i s F=>?_,h.one,h.fresh,fun i p W=>?_,(by intro c zz bA;cases bA),fun i U m s aV F=>?_,fun i m b x F o D=>?_,?_,h.same⟩
 .rcases aB i m s with⟨rfl,rfl⟩|⟨A,r,s⟩
  .refine⟨Y.finish v,X,_,?_,.inl ⟨by rw[upd_ne _ _ hk.symm];exact aN,rfl⟩,?_⟩;·rw[h2 hk,bR aL];rfl
   .have C:Rel E I.sh I.bs I.B I.f I.cs I.l Y X (w.setChan j.ch 1 #[] false 1 1 false):=gG aO aZ (by rw[R];exact r3 _) fun b x o=>x8 (aE Z o);exact⟨C.st.top (C.st.head.finish (VR.closed 8 v hv)) (Blk.le_refl _) (eR _ _),C.wr,C.low⟩
  .obtain⟨fi,ci,x,O,V,C⟩:=h.live i m s;refine⟨fi,ci,x,?_,?_,gG aO C (by rw[R];exact r3 _) fun b x o=>x8 (aE s o)⟩;·rw[h2 (fun e=>r e.symm),h2 (fun e=>A e.symm),O]
   .rw[upd_ne _ _ r];unfold TF at V |-;rw[pE (iH A)]at V |-;exact V
 .have A:i≠0:=Qa
  rw[upd_ne _ _ A]at F;by_cases r:i=k;·subst r;rw[bR (by simpa using aW)]at D;obtain rfl:=D3 D;rw[upd_same,hD,aJ];exact hq
  .rw[h2 (fun e=>r e.symm),h2 (fun e=>A e.symm)]at D;rw[upd_ne _ _ r]at F;rw[upd_ne _ _ r,hD];exact h.old i x s F D
 .rw[hD];by_cases A:i=0;·rw[A];exact aI
  .refine h.deaf i (s.imp (fun x=>?_) fun x=>by simpa using x);rw[upd_ne _ _ A]at x;by_cases r:i=k;·subst r;rw[upd_same]at x;exact absurd rfl x
   .rwa [upd_ne _ _ r]at x
 .obtain⟨m1,O,C,V⟩:=aA a m ha;obtain⟨m2,h4,h5,h6⟩:=aA b m' o;have:=h.apart a b m1 m2 c d x aS O h4 (C▸hc) (h5▸hd);rw[V,h6]at this;exact this
 .obtain⟨m1,O,C,V⟩:=aA x m D;refine(hT.known i a ha F x m1 O).imp id fun hf b y o hy=>?_;have:=hf b y (by rw[C];exact o) hy;rw[V]at this;exact this
 .rcases h.tr.hand i a (mW hn ha) F with x|⟨i',m,O,C⟩|⟨i',p,O,C⟩;·exact .inl (x.app _)
  .by_cases r:i'=k;·subst r;exact .inl (aF i (yE (y:=H) C (by rw[<-Q]) rfl))
   .by_cases A:i'=0;·subst A;exact .inl (C.app _)
    .exact .inr (.inl ⟨i',m,by rw[upd_ne _ _ A,upd_ne _ _ r];exact O,C.app _⟩)
  .exact .inr (.inr ⟨i',p,O,C.app _⟩)
 .rcases aB i m F with⟨rfl,rfl⟩|⟨A,r,F⟩;·have h0:=h.chanM 0 U I s Z;rw[x8 fun e=>hk (h.one 0 k U j s hj e).symm];exact h0
  .rw[x8 fun e=>r (h.one i k U j s hj e)];exact h.chanM i U m s F
 .obtain⟨v',O,C,⟨op,V,h4⟩,h5⟩:=h.chanS i U p s W;have aM:=gV V;exact⟨v',O,by rw[x8 fun e=>hS i p W (h.one i k U j s hj e)];exact C,⟨op,by rw[gX aM];exact V,h4⟩,(gY aM).2 h5⟩
 .refine h.job i s (F.imp (fun x=>?_) id);rw[upd_ne _ _ (show i≠0 by omega)]at x;by_cases r:i=k;·subst r;rw[upd_same]at x;exact absurd rfl x
  .rwa [upd_ne _ _ r]at x
 .obtain⟨O,C⟩:=h.excl i p W;exact⟨by rw[upd_ne _ _ (show i≠0 by omega),upd_ne _ _ (hS i p W)];exact O,C⟩
 .rcases aB i m F with⟨rfl,rfl⟩|⟨_,_,F⟩;·omega
  .exact h.stops i U m s aV F
 .obtain⟨m1,O,C,V⟩:=aA i m F;rw[<-V];exact h.base i m1 b x O (by rw[C];exact o) D
 .rw[R];exact⟨h.keep.1,fun x D=>by rw[x8 Qa];exact h.keep.2 x D⟩
end
end Go.Twin
namespace Go.Twin
open Go.Conc
open Go.ConcN (sumTo upd sumTo_upd upd_ne upd_same)
section
variable {E:Env} {sh:Nat->Prop} {bs':List Frame} {Stop:Frame->List Frame->World->Prop}
def OM(V:E.Fine) {B:Blk} {f D:Frame} {cs z:List Frame} {l w:World} (n:Rel E sh bs' B f cs l D z w)(J:f.mode=.run->Chk E f) (H:∀t d,∃s c a k,stepG E.P true (G f cs) (l.re t d)=.go (G s c) a k)(I:∀t d s c a k,stepG E.P true (G f cs) (l.re t d)=.go (G s c) a k->¬bX E.P s c a) (O:Bool):∃t d s c a k v p u r A,stepG E.P true (G f cs) (l.re t d)=.go (G s c) a k/\stepG E.P O (G D z) w=.go (G v p) u r/\Rel E sh bs' A s c a v p u/\Went sh B l w A a u/\u.tape=w.tape/\∀e∈r,aX ⟨sh,fun _=>True⟩ A e:=by
 let t:Nat->Question->Nat:=fun j q=>w.tape (w.drawn+j) q;obtain⟨s,c,a,k,g⟩:=H t 0;have N:=I _ _ _ _ _ _ g;have K:¬aH [ZH E.P] f cs:=by
  intro K;rcases oY (l:=l.re t 0) n.st.head.kind.1 K with⟨o,x,k,y⟩|⟨L,C,X,Q,y,F⟩;·rw[y]at g;cases g
  .rw[y]at g;simp only[cE,G,hA,bQ]at g;obtain⟨⟨rfl,rfl⟩,rfl,_⟩:=g;exact N F
 have U:WR E ⟨sh,fun _=>True⟩ B (l.re t 0) w:=n.wr.retape rfl rfl rfl fun i q _=>by show w.tape (w.drawn+(0+i)) q=w.tape (w.drawn+i) q;rw[w0]
 have:=k7 V n.st U n.low true O J (lW n.st K) (.inl fun _=>trivial);rw[g]at this;rcases this with⟨L,C,y,S⟩|⟨L,C,v,p,u,r,A,W,y,F,m,R,T⟩;·exfalso;simp only[G,hA,bQ]at y;obtain⟨rfl,rfl⟩:=y;exact N (.inl S)
 .simp only[G,hA,bQ]at y;obtain⟨rfl,rfl⟩:=y;exact⟨t,0,s,c,a,k,v,p,u,r,A,g,F,⟨R,m.wr.retape rfl rfl rfl fun _ _ h=>h.elim,fun b Z=>h8 (n.low b Z) m.size.2.1⟩,⟨m.le,m.al,m.keep,m.size,⟨m.same.1,m.same.2.1⟩,⟨m.lone.1,m.lone.2.1⟩,m.lkeep,m.cov⟩,m.same.2.2.1,fun e M=>m.ev e (T e M)⟩
end
inductive W (E:Env):(Nat->Option Node)->Prop|mk (M:Nat->Option Node)(h:∀i n,M i=some n->n.stop n.f n.cs n.l∨((n.f.mode=.run->Chk E n.f)/\∀t d,∃f' cs' l' es,stepG E.P true (G n.f n.cs) (n.l.re t d)=.go (G f' cs') l' es))(hr:∀i n,M i=some n->n.stop n.f n.cs n.l->W E (upd M i none))(hs:∀i n t d f' cs' l' es B',M i=some n->¬n.stop n.f n.cs n.l->stepG E.P true (G n.f n.cs) (n.l.re t d)=.go (G f' cs') l' es->W E (upd M i (some {n with B:=B',f:=f',cs:=cs',l:=l'}))):W E M
section
variable {E:Env}
def kX{α:Type} (f:Nat->α) {i j:Nat} (h:i≠j)(x y:α):upd (upd f i x) j y=upd (upd f j y) i x:=by
 funext k;unfold upd;by_cases g:k=j
 .by_cases c:k=i;·omega
  .simp[g,c];omega
 .by_cases c:k=i;·simp[g,c];exact fun e=>absurd e h
  .simp[g,c]
def bZ{α:Type} (f:Nat->α)(i:Nat)(x y:α):upd (upd f i x) i y=upd f i y:=by funext k;unfold upd;by_cases c:k=i<;>simp[c]
def uP{α:Type} (f:Nat->α)(i:Nat)(x:α)(h:f i=x):upd f i x=f:=by
 funext k;unfold upd;by_cases c:k=i;·simp[c,h]
 .simp[c]
def W.empty:W E (fun _=>none):=.mk _ (fun i n h=>by cases h) (fun i n h=>by cases h) fun i n t d j c a g f h=>by cases h
def W.drop{M:Nat->Option Node} (h:W E M)(i:Nat):W E (upd M i none):=by induction h with|mk M h hr hs ihr ihs=>
  have r:∀j n,upd M i none j=some n->j≠i/\M j=some n:=fun j n=>iO;refine .mk _ (fun j n f=>h j n (r j n f).2) (fun j n f c=>?_) fun j n t d x g o v s f y c=>?_;·obtain⟨m,p⟩:=r j n f;rw[kX M (fun e=>m e.symm)];exact ihr j n p c
  .obtain⟨m,p⟩:=r j n f;rw[kX M (fun e=>m e.symm)];exact ihs j n t d x g o v s p y c
def W.add{o:Frame->List Frame->World->Prop} {f:Frame} {cs:List Frame} {l:World} (F:LG E o f cs l) {i:Nat}:∀{M:Nat->Option Node},W E M->M i=none->∀(q:Nat->Prop)(bs:List Frame)(B:Blk),W E (upd M i (some ⟨q,bs,B,f,cs,l,o⟩)):=by induction F with
 |stop f cs l hst=>intro M C;induction C with|mk M h hr hs ihr ihs=>
   intro r q bs B;have v:∀j n,upd M i (some ⟨q,bs,B,f,cs,l,o⟩) j=some n->(j=i/\n=⟨q,bs,B,f,cs,l,o⟩)∨(j≠i/\M j=some n):=by
    intro j n c;by_cases e:j=i;·subst e;rw[upd_same]at c;exact .inl ⟨rfl,(D3 c).symm⟩
    .rw[upd_ne _ _ e]at c;exact .inr ⟨e,c⟩
   refine .mk _ (fun j n c=>?_) (fun j n c s=>?_) fun j n t d A m D y x c s p=>?_
   .rcases v j n c with⟨rfl,rfl⟩|⟨_,c⟩;·exact .inl hst
    .exact h j n c
   .rcases v j n c with⟨rfl,rfl⟩|⟨g,c⟩;·rw[bZ,uP M j none r];exact .mk M h hr hs
    .rw[kX M (fun e=>g e.symm)];exact ihr j n c s (by rw[upd_ne _ _ (fun e=>g e.symm)];exact r) q bs B
   .rcases v j n c with⟨rfl,rfl⟩|⟨g,c⟩;·exact absurd hst s
    .rw[kX M (fun e=>g e.symm)];exact ihs j n t d A m D y x c s p (by rw[upd_ne _ _ (fun e=>g e.symm)];exact r) q bs B
 |step f cs l hc hg hss ih=>intro M C;induction C with|mk M h hr hs ihr ihs=>
   intro r q bs B;have v:∀j n,upd M i (some ⟨q,bs,B,f,cs,l,o⟩) j=some n->(j=i/\n=⟨q,bs,B,f,cs,l,o⟩)∨(j≠i/\M j=some n):=by
    intro j n c;by_cases e:j=i;·subst e;rw[upd_same]at c;exact .inl ⟨rfl,(D3 c).symm⟩
    .rw[upd_ne _ _ e]at c;exact .inr ⟨e,c⟩
   refine .mk _ (fun j n c=>?_) (fun j n c s=>?_) fun j n t d A m D y x c s p=>?_
   .rcases v j n c with⟨rfl,rfl⟩|⟨_,c⟩;·exact .inr ⟨hc,hg⟩
    .exact h j n c
   .rcases v j n c with⟨rfl,rfl⟩|⟨g,c⟩;·rw[bZ,uP M j none r];exact .mk M h hr hs
    .rw[kX M (fun e=>g e.symm)];exact ihr j n c s (by rw[upd_ne _ _ (fun e=>g e.symm)];exact r) q bs B
   .rcases v j n c with⟨rfl,rfl⟩|⟨g,c⟩;·rw[bZ];exact ih t d A m D y p (.mk M h hr hs) r q bs x
    .rw[kX M (fun e=>g e.symm)];exact ihs j n t d A m D y x c s p (by rw[upd_ne _ _ (fun e=>g e.symm)];exact r) q bs B
def W.not_lost{M:Nat->Option Node} (L:W E M):(∀i n,M i=some n->Halts n.stop)->∀i n,M i=some n->¬bX E.P n.f n.cs n.l:=by induction L with|mk M h hr hs ihr ihs=>
  intro y i n p F;by_cases c:n.stop n.f n.cs n.l;·exact Q2 (y i n p) c F
  .rcases h i n p with v|⟨_,v⟩;·exact c v
   .have A:bX E.P n.f n.cs (n.l.re n.l.tape n.l.drawn):=F;obtain⟨Q,H,a,O,C⟩:=v n.l.tape n.l.drawn;rcases lost_step A with⟨o,w,g,x⟩|⟨I,s,N,g,x,K⟩;·rw[x]at C;cases C
    .refine ihs i n n.l.tape n.l.drawn I s N g n.B p c x (fun j m r=>?_) i _ (upd_same _ _ _) K;by_cases e:j=i;·subst e;rw[upd_same]at r;cases r;exact y j n p
     .rw[upd_ne _ _ e]at r;exact y j m r
end
variable {M M' M'':Nat->Option Node}
def mX(P:Program)(a:Value->World->Prop)(e:Array Goroutine)(w:World)(sl:Option (Nat×Nat))(t:Trace)(i:Nat):Prop:=∃c d f b,runT P (crowd e w sl) i=(.next (crowd c d f),b)/\Fin P a c d f (t++b)
def dG(E:Env)(j:Job):Prop:=∀{sh:Nat->Prop} {B:Blk} {f:Frame} {cs:List Frame} {l:World} {fa:Frame} {ca:List Frame} {w:World},j.stop f cs l->Rel E sh j.bs B f cs l fa ca w->∃v g c m,j.V v/\bH 8 v=true/\stepG E.P false (G fa ca) w=.comm c #[scase j.ch v g] true .send w #[]/\QuitsD E.P m 0 (Go.Conc.served c undef)
structure Same (z:Zs)(M M':Nat->Option Node):Prop where
 node:∀i n',M' i=some n'->∃n,M i=some n/\n'.sh=n.sh/\n'.bs=n.bs/\n'.stop=n.stop/\n.B.le n'.B
 zero:z≠.run->M' 0=M 0
def Same.refl(z:Zs)(M:Nat->Option Node):Same z M M:=⟨fun i n h=>⟨n,h,rfl,rfl,rfl,Blk.le_refl _⟩,fun _=>rfl⟩
def Same.trans{z:Zs} (h:Same z M M')(k:Same z M' M''):Same z M M'':=⟨fun i n A=>by obtain⟨C,r,s,v,x,y⟩:=k.node i n A;obtain⟨F,f,g,j,m,p⟩:=h.node i C r;exact⟨F,f,s.trans g,v.trans j,x.trans m,Blk.le_trans p y⟩,fun c=>(k.zero c).trans (h.zero c)⟩
def upd_some{α:Type} {f:Nat->Option α} {k j:Nat} {x n:α} (h:upd f k (some x) j=some n):(j=k/\n=x)∨(j≠k/\f j=some n):=by
 by_cases e:j=k;·subst e;rw[upd_same]at h;exact .inl ⟨rfl,(D3 h).symm⟩
 .rw[upd_ne _ _ e]at h;exact .inr ⟨e,h⟩
def kJ(J:Nat->Option Job)(M:Nat->Option Node)(w:World)(M':Nat->Option Node)(a:World):Prop:=w.heap.size<=a.heap.size/\∀x,x<w.heap.size->(∀i n b,M i=some n->n.B b x->n.sh b)->(∀k j,J k=some j->j.ch≠x)->a.heap[x]?=w.heap[x]?/\∀i n b,M' i=some n->n.B b x->n.sh b
def kJ.refl(J:Nat->Option Job)(M:Nat->Option Node)(w:World):kJ J M w M w:=⟨r3 _,fun x _ h _=>⟨rfl,h⟩⟩
def kJ.trans{J:Nat->Option Job} {w w' c:World} (h:kJ J M w M' w')(k:kJ J M' w' M'' c):kJ J M w M'' c:=⟨l3 h.1 k.1,fun x g s f=>by obtain⟨j,m⟩:=h.2 x g s f;obtain⟨p,r⟩:=k.2 x (h8 g h.1) m f;exact⟨p.trans j,r⟩⟩
def Un(U:Nat->Prop)(M:Nat->Option Node)(S:Nat->Option Nat):Prop:=∀k,0<k->(U k↔(M k≠none∨S k≠none))
section
variable {E:Env} {W0:World} {J:Nat->Option Job} {U:Nat->Prop} {Post:Value->World->Prop}
def yG(hG:E.Fine)(aM:E.sh=true)(hJ:∀k j,J k=some j->dG E j) {M:Nat->Option Node} (hW:W E M):∀{z:Zs} {S:Nat->Option Nat} {o:Array Goroutine} {w:World} {sl:Option (Nat×Nat)} {t:Trace} {q:Nat->Nat},Co E W0 J z M S o w t q->(∀i n,M i=some n->Halts n.stop)->Un U M S->(∀{M':Nat->Option Node} {S':Nat->Option Nat} {s:Array Goroutine} {D:World} {sl':Option (Nat×Nat)} {t':Trace} {q':Nat->Nat} {a:Node} {fa:Frame} {ca:List Frame},z=.run->Co E W0 J .run M' S' s D t' q'->W E (upd M' 0 none)->Same z M M'->kJ J M w M' D->Un U M' S'->s.size=o.size->M' 0=some a->a.stop a.f a.cs a.l->s[0]?=some (G fa ca)->q' 0=0->Rel E a.sh a.bs a.B a.f a.cs a.l fa ca D->mX E.P Post s D sl' t' 0)->(∀{M':Nat->Option Node} {S':Nat->Option Nat} {s:Array Goroutine} {D:World} {sl':Option (Nat×Nat)} {t':Trace} {q':Nat->Nat} {n:Node} {v zz:Value} {k:Nat} {j:Job},z=.park j.ch zz->J k=some j->j.V v->M 0=some n->Same z M (upd M' 0 (some n))->Co E W0 J .run M' S' s D t' q'->W E (upd M' 0 none)->M' 0=some {n with f:=n.f.finish v}->M' k=none->(∀x,0<x->(S' x=none->M' x=none->¬U x∨x=k)/\((M' x≠none∨S' x≠none)->U x/\x≠k))->s.size=o.size-> w.heap.size<=D.heap.size->Fin E.P Post s D sl' t')->Fin E.P Post o w sl t:=by induction hW with|mk M h hr hs ihr ihs=>
  have bI:∀(N:Nat) {z:Zs} {S:Nat->Option Nat} {o:Array Goroutine} {w:World} {sl:Option (Nat×Nat)} {t:Trace} {q:Nat->Nat},sumTo o.size q=N->Co E W0 J z M S o w t q->(∀i n,M i=some n->Halts n.stop)->Un U M S->(∀{M':Nat->Option Node} {S':Nat->Option Nat} {s:Array Goroutine} {D:World} {sl':Option (Nat×Nat)} {t':Trace} {q':Nat->Nat} {a:Node} {fa:Frame} {ca:List Frame},z=.run->Co E W0 J .run M' S' s D t' q'->W E (upd M' 0 none)->Same z M M'->kJ J M w M' D->Un U M' S'->s.size=o.size->M' 0=some a->a.stop a.f a.cs a.l->s[0]?=some (G fa ca)->q' 0=0->Rel E a.sh a.bs a.B a.f a.cs a.l fa ca D->mX E.P Post s D sl' t' 0)->(∀{M':Nat->Option Node} {S':Nat->Option Nat} {s:Array Goroutine} {D:World} {sl':Option (Nat×Nat)} {t':Trace} {q':Nat->Nat} {n:Node} {v zz:Value} {k:Nat} {j:Job},z=.park j.ch zz->J k=some j->j.V v->M 0=some n->Same z M (upd M' 0 (some n))->Co E W0 J .run M' S' s D t' q'->W E (upd M' 0 none)->M' 0=some {n with f:=n.f.finish v}->M' k=none->(∀x,0<x->(S' x=none->M' x=none->¬U x∨x=k)/\((M' x≠none∨S' x≠none)->U x/\x≠k))->s.size=o.size-> w.heap.size<=D.heap.size->Fin E.P Post s D sl' t')->Fin E.P Post o w sl t:=by intro N;induction N using Nat.strongRecOn with|ind N ihN=>
    intro z S o w sl t q hN I hS hU K0 K1;have aX:∀g∈o,awake g:=by
     intro g hg;obtain⟨i,K,rfl⟩:=oW.1 hg;rcases I.status (y1 K)with Q|Q|⟨_,c,zz,fa,ca,_,Q⟩;·exact awake_of (.inl Q)
     .exact awake_of (.inr (.inr Q))
     .exact awake_of (.inr (.inl (by rw[Q];rfl)))
    have aS:∃(i:Nat)(g:Goroutine),o[i]?=some g/\g.status=.running:=by
     have aJ:∀(i:Nat)(n:Node),M i=some n->(i=0->z=.run)->∃(i:Nat)(g:Goroutine),o[i]?=some g/\g.status=.running:=by
      intro i n K hz;obtain⟨fa,ca,g,Q,h2,_⟩:=I.live i n K;refine⟨i,g,Q,?_⟩;rcases h2 with⟨_,rfl⟩|⟨_,_,h2,_⟩
      .unfold bT;split;·cases hz rfl
       .rfl
      .exact h2
     cases hz:z with
     |run=>cases H:M 0 with
      |none=>exact absurd H I.zero|some n=>exact aJ 0 n H fun _=>hz
     |park c zz=>obtain⟨k,j,n,Q,_,_,h4⟩:=I.wait c zz hz;exact aJ k n h4 fun e=>Qa
    obtain⟨i,g,d,sl',K,aC,aE⟩:=crowd_pick (P:=E.P) (w:=w) (sl:=sl) aX aS;have aO:i<o.size:=(bP.1 K).1;replace I:=I.at_ d;cases H:M i with
    |none=>
     have F:0<i:=iH fun e=>I.zero (e▸H);have hq:=I.old i g F H K;have aD:(i==0)=false:=Qk
     cases aL:q i with|zero=>rw[aL]at hq;rw[hq.1]at aC;cases aC|succ k=>
      rw[aL]at hq;rcases hq with⟨hf,_⟩|⟨_,g',u,bB,R,bE⟩;·rw[hf]at aC;cases aC
      have r:=K3 (P:=E.P) (sl:=sl') (i:=i) K (by rw[aD];exact R (w.at d));have aB:((o.map (woken E.P g g' (w.at d))).setIfInBounds i g').size=o.size:=Qd
      have aT:sumTo o.size (upd q i k)+(k+1)=sumTo o.size q+k:=by have:=sumTo_upd q k id aO;simpa [aL] using this
      exact rW (aE.trans r) (ihN (sumTo o.size (upd q i k)) Qa (by rw[aB]) (I.leaver F H K bB bE) hS hU (fun T X Y O ek eu u=>K0 T X Y O ek eu (u.trans aB)) fun T X Y O e5 e6 e7 e8 e9 Z u=>K1 T X Y O e5 e6 e7 e8 e9 Z (u.trans aB))
    |some n=>
     obtain⟨fa,ca,g1,Q,h2,hR⟩:=I.live i n H;rw[K]at Q;obtain rfl:=D3 Q;rcases h2 with⟨aQ,hg⟩|⟨F,bF,_,R⟩
     .have hz:i=0->z=.run:=by rintro rfl;rw[hg]at aC;cases z with
       |run=>rfl|park c zz=>cases aC
      have bA:g=G fa ca:=by
       rw[hg];unfold bT;split;·cases hz rfl
       .rfl
      clear hg;subst bA;by_cases A:n.stop n.f n.cs n.l
      .rcases mS i with rfl|F;· obtain rfl:=hz rfl;obtain⟨s,D,bM,ops,h3,h4⟩:=K0 (sl':=sl') rfl I ((W.mk M h hr hs).drop 0) (Same.refl _ _) (kJ.refl _ _ _) hU rfl H A K aQ hR;exact rW (aE.trans h3) h4
       .
        obtain⟨j,hj⟩:=I.job i F (.inl (by rw[H];simp));obtain⟨aN,aY⟩:=I.stops i j n F hj H;rw[aY]at hR;rw[aN]at A;obtain⟨v,zz,g₂,m,hv,aZ,aG,aR⟩:=hJ i j hj A hR;have hc:=I.chanM i j n hj H;have aD:(i==0)=false:=Qk
        by_cases aP:∃zz,z=.park j.ch zz
        .obtain⟨aV,rfl⟩:=aP;obtain⟨n0,aH⟩:∃n0,M 0=some n0:=by cases h0:M 0 with
          |none=>exact absurd h0 I.zero|some n0=>exact⟨n0,rfl⟩
         obtain⟨f0,c0,g0,k1,k2,k3⟩:=I.live 0 n0 aH;rcases k2 with⟨_,k2⟩|⟨k2,_⟩;case inr=>omega
         have bH:g0=parked (G f0 c0) #[rcase j.ch aV] (.recv false):=k2;subst bH;have hp:partners (o.setIfInBounds i ph) j.ch false=[(0,0)]:=by
          rw[partners_one (j:=0) (g:=parked (G f0 c0) #[rcase j.ch aV] (.recv false)) (stand_get Qa k1) fun k x hk C=>?_,xY,Zc9 rfl];·rfl
          .rcases o0 o i k x C with⟨rfl,rfl⟩|⟨_,C⟩;·rfl
           .rcases I.status C with Q|Q|⟨e,_⟩;·exact lF (by rw[Q];simp) _ _
            .exact lF (by rw[Q];simp) _ _
            .exact absurd e hk
         have r:=crowd_send_meets (P:=E.P) (sl:=sl') (shape:=.send) (shj:=.recv false) K (by rw[aD];exact aG) hc (show 0≠i by omega) k1 hp;rw[K4]at r;simp only[mR]at r;have aK:=I.meet aM F H aH hj aZ k1 aR (fn:=g₂.frame.fn) (fn':=(G f0 c0).frame.fn) (pos:=g₂.frame.place) (pos':=(G f0 c0).frame.place);refine rW (aE.trans r) (K1 rfl hj hv aH ⟨fun x a C=>?_,fun _=>by rw[upd_same,aH]⟩ aK ?_ (upd_same _ _ _) ?_ (fun x C=>?_) Qd (by simp[World.setChan,World.at]))
         .by_cases aI:x=0;·subst aI;rw[upd_same]at C;cases C;exact⟨n0,aH,rfl,rfl,rfl,Blk.le_refl _⟩
          .rw[upd_ne _ _ aI,upd_ne _ _ aI]at C;exact⟨a,(iO C).2,rfl,rfl,rfl,Blk.le_refl _⟩
         .rw[bZ];exact(hr i n H (by rw[aN];exact A)).drop 0
         .rw[upd_ne _ _ (show i≠0 by omega),upd_same]
         .have aI:x≠0:=Qa
          have aW:S i=none:=by cases hs:S i with
           |none=>rfl|some p=>rw[(I.excl i p hs).1]at H;cases H
          rw[upd_ne _ _ aI];by_cases e:x=i;·subst e;rw[upd_same];exact⟨fun _ _=>.inr rfl,fun y=>absurd y (by rw[aW];simp)⟩
          .rw[upd_ne _ _ e];refine⟨fun Q h2=>.inl fun hu=>?_,fun y=>⟨(hU x C).2 y,e⟩⟩;rcases(hU x C).1 hu with h3|h3;·exact h3 h2
           .exact h3 Q
        .have aU:∀zz,z≠.park j.ch zz:=fun zz e=>aP ⟨zz,e⟩;have r:=crowd_send_room (P:=E.P) (sl:=sl') (shape:=.send) K (by rw[aD];exact aG) hc Qc (I.offers i aU);rw[K4]at r;simp only[mR]at r;have aK:=I.send aM F H hj aU hv aR (fn:=g₂.frame.fn) (pos:=g₂.frame.place);have aA:Same z M (upd M i none):=⟨fun x a C=>⟨a,(iO C).2,rfl,rfl,rfl,Blk.le_refl _⟩,fun _=>upd_ne _ _ Qa⟩;have aF:kJ J M w (upd M i none) ((w.at d).setChan j.ch 1 #[v] false 1 0 false):=⟨by simp[World.setChan,World.at],fun x C hM hJ=>⟨by rw[x8 (fun e=>hJ i j hj e.symm)];rfl,fun i n b K=>hM i n b (iO K).2⟩⟩;refine rW (aE.trans r) (ihr i n H (by rw[aN];exact A) aK (fun x a C=>hS x a (iO C).2) (fun x C=>?_) (fun T X Y O ek eu u=>K0 T X Y (aA.trans O) (aF.trans ek) eu (u.trans Qd)) fun T X Y O e5 e6 e7 e8 e9 Z u ew=>K1 T X Y (by rw[upd_ne _ _ Qa]at O;exact O) (aA.trans e5) e6 e7 e8 e9 Z (u.trans Qd) (l3 aF.1 ew));rw[hU x C];by_cases e:x=i;·subst e;rw[upd_same,upd_same,H];simp
         .rw[upd_ne _ _ e,upd_ne _ _ e]
      .rcases h i n H with h3|⟨hc,hg⟩;·exact absurd h3 A
       have bD:∀t d f' L l' u,stepG E.P true (G n.f n.cs) (n.l.re t d)=.go (G f' L) l' u->¬bX E.P f' L l':=by
        intro t d f' L l' u R;refine(hs i n t d f' L l' u n.B H A R).not_lost (fun x a C=>?_) i _ (upd_same _ _ _);by_cases e:x=i;·subst e;rw[upd_same]at C;cases C;exact hS x n H
        .rw[upd_ne _ _ e]at C;exact hS x a C
       obtain⟨tt,dd,f',L,l',u,bL,bJ,D,bK,B',g1,g2,g3,g4,g5,g7⟩:=OM hG hR hc hg bD (i==0);have r:=K3 (P:=E.P) (sl:=sl') (i:=i) K g2;have aA:Same z M (upd M i (some {n with B:=B',f:=f',cs:=L,l:=l'})):=⟨fun x a C=>by
        by_cases e:x=i;·subst e;rw[upd_same]at C;cases C;exact⟨n,H,rfl,rfl,rfl,g4.le⟩
        .rw[upd_ne _ _ e]at C;exact⟨a,C,rfl,rfl,rfl,Blk.le_refl _⟩,fun bG=>upd_ne _ _ (by rintro rfl;exact bG (hz rfl))⟩;have aF:kJ J M w (upd M i (some {n with B:=B',f:=f',cs:=L,l:=l'})) D:=⟨g4.size.1,fun x C hM hJ=>⟨g4.keep x C fun b hb=>hM i n b H hb,fun y a b hy hb=>by
        rcases upd_some hy with⟨rfl,rfl⟩|⟨_,hy⟩
        .rcases g4.al b x hb with h5|h5;·exact hM y n b H h5
         .have h6:=h5.2.1;have:(w.at d).heap.size=w.heap.size:=rfl;omega
        .exact hM y a b hy hb⟩⟩;refine rW (aE.trans r) (ihs i n tt dd f' L l' u B' H A g1 (I.go aM H hz aQ K g3 g4 g5 g7 hR) (fun x a C=>?_) (fun x C=>?_) (fun T X Y O ek eu u=>K0 T X Y (aA.trans O) (aF.trans ek) eu (u.trans Qd)) fun T X Y O e5 e6 e7 e8 e9 Z u ew=>K1 T X Y ?_ (aA.trans e5) e6 e7 e8 e9 Z (u.trans Qd) (l3 aF.1 ew));·obtain⟨n2,k1,_,_,k4,_⟩:=aA.node x a C;rw[k4];exact hS x n2 k1
       .rw[hU x C];by_cases e:x=i;·subst e;rw[upd_same,H];simp
        .rw[upd_ne _ _ e]
       .rw[aA.zero (by rw[T];simp)]at O;exact O
     .
      have aD:(i==0)=false:=Qk
      have r:=K3 (P:=E.P) (sl:=sl') (i:=i) K (by rw[aD];exact R (w.at d));rw[K4]at r;have aB:((o.map (woken E.P g (G fa ca) (w.at d))).setIfInBounds i (G fa ca)).size=o.size:=Qd
      have aT:sumTo o.size (upd q i 0)+1=sumTo o.size q+0:=by have:=sumTo_upd q 0 id aO;simpa [bF] using this
      refine rW (aE.trans r) ?_;rw[fY];exact ihN (sumTo o.size (upd q i 0)) Qa (by rw[aB]) (I.born F H K hR) hS hU (fun T X Y O ek eu u=>K0 T X Y O ek eu (u.trans aB)) fun T X Y O e5 e6 e7 e8 e9 Z u=>K1 T X Y O e5 e6 e7 e8 e9 Z (u.trans aB)
  intro z S o w sl t q I hS hU K0 K1;exact bI _ rfl I hS hU K0 K1
end
section
variable {E:Env} {W0:World} {J:Nat->Option Job} {z:Zs} {M:Nat->Option Node} {S:Nat->Option Nat} {gs:Array Goroutine} {w w':World} {t u:Trace} {q:Nat->Nat} {sl:Option (Nat×Nat)}
def Tr.renode{b:Nat} (h:Tr M S b t) {n n':Node} (d:M 0=some n)(l:∀a,lX n a->lX n' a):Tr (upd M 0 (some n')) S b t:=by
 refine⟨h.clean,h.seen,fun i a c f j m g=>?_,fun i a c f=>?_⟩
 .rcases upd_some g with⟨rfl,rfl⟩|⟨_,g⟩;·exact(h.known i a c f 0 n d).imp id (l a)
  .exact h.known i a c f j m g
 .rcases h.hand i a c f with x|⟨k,m,r,p⟩|x;·exact .inl x
  .by_cases e:k=0;·subst e;exact .inl p
   .exact .inr (.inl ⟨k,m,by rw[upd_ne _ _ e];exact r,p⟩)
  .exact .inr (.inr x)
def Co.renode(h:Co E W0 J .run M S gs w t q) {n n':Node} (d:M 0=some n) {D:Frame} {o:List Frame} (hg:gs[0]?=some (G D o))(aD:q 0=0)(hR:Rel E n'.sh n'.bs n'.B n'.f n'.cs n'.l D o w)(P:∀Q x,n'.B Q x->∃b,n.B b x/\(n.sh b->n'.sh Q)):Co E W0 J .run (upd M 0 (some n')) S gs w t q:=by
 have Z:∀a,lX n a->lX n' a:=fun a Z Q x C H=>by obtain⟨b,v,y⟩:=P Q x C;obtain⟨I,K⟩:=Z b x v H;exact⟨y I,K⟩
 have L:∀j,upd M 0 (some n') j≠none->M j≠none:=by
  intro j A;by_cases e:j=0;·subst e;rw[d];simp
  .rwa [upd_ne _ _ e]at A
 have T:∀j,upd M 0 (some n') j=none->M j=none:=by
  intro j A;by_cases e:j=0;·subst e;rw[upd_same]at A;cases A
  .rwa [upd_ne _ _ e]at A
 refine⟨fun i m r=>?_,fun i g r s H=>h.old i g r (T i s) H,fun i r=>h.deaf i (r.imp (L i) id),by rw[upd_same];simp,fun i j m U b c x X r A C V=>?_,h.tr.renode d Z,fun k j m F s=>?_,h.chanS,fun k F s=>h.job k F (s.imp (L k) id),h.one,h.fresh,fun k p hp=>?_,(by intro c zz aE;cases aE),fun k j m F A s=>?_,fun i m b x r C H=>?_,h.keep,h.same⟩
 .rcases upd_some r with⟨rfl,rfl⟩|⟨_,r⟩;·exact⟨D,o,G D o,hg,.inl ⟨aD,rfl⟩,hR⟩
  .exact h.live i m r
 .rcases upd_some r with⟨e1,rfl⟩|⟨W,N⟩<;>rcases upd_some A with⟨e2,rfl⟩|⟨Y,O⟩;·omega
  .obtain⟨R,v,y⟩:=P b x C;obtain⟨I,K⟩:=h.apart 0 j n U R c x (fun e=>Y e.symm) d O v V;exact⟨y I,K⟩
  .obtain⟨c1,v,y⟩:=P c x V;obtain⟨I,K⟩:=h.apart i 0 m n b c1 x W N d C v;exact⟨I,y K⟩
  .exact h.apart i j m U b c x X N O C V
 .rcases upd_some s with⟨rfl,rfl⟩|⟨_,s⟩;·exact h.chanM 0 j n F d
  .exact h.chanM k j m F s
 .obtain⟨v,y⟩:=h.excl k p hp;exact⟨by rw[upd_ne _ _ Qa];exact v,y⟩
 .rcases upd_some s with⟨rfl,rfl⟩|⟨_,s⟩;·omega
  .exact h.stops k j m F A s
 .rcases upd_some r with⟨rfl,rfl⟩|⟨_,r⟩;·obtain⟨R,v,y⟩:=P b x C;exact y (h.base 0 n R x d v H)
  .exact h.base i m b x r C H
def Co.park(h:Co E W0 J .run M S gs w t q) {n T:Node} (b:M 0=some T) {fa:Frame} {ca:List Frame} (K:gs[0]?=some (G fa ca))(y:q 0=0) {k:Nat} {j:Job} (s:0<k)(Q:J k=some j)(O:M k=some n)(a:Value):Co E W0 J (.park j.ch a) M S (gs.setIfInBounds 0 (parked (G fa ca) #[rcase j.ch a] (.recv false))) w t q:=by
 have v:0<gs.size:=(bP.1 K).1;refine⟨fun i m p=>?_,fun i g p R L=>?_,fun i p=>h.deaf i (p.imp id fun x=>by simpa using x),h.zero,h.apart,h.tr,h.chanM,h.chanS,h.job,h.one,h.fresh,h.excl,fun c V A=>?_,h.stops,h.base,h.keep,h.same⟩
 .obtain⟨H,C,g,r,f,I⟩:=h.live i m p;by_cases e:i=0
  .subst e;rw[K]at r;rcases f with⟨_,f⟩|⟨f,_⟩;case inr=>omega
   have F:=(D3 r).trans f;have N:fa=H/\ca=C:=by simp only[bT,G,hA,bQ]at F;exact F
   obtain⟨rfl,rfl⟩:=N;exact⟨fa,ca,_,by rw[bR v];rfl,.inl ⟨y,rfl⟩,I⟩
  .refine⟨H,C,g,by rw[h2 (fun x=>e x.symm)];exact r,?_,I⟩;unfold TF at f |-;rw[pE (iH e)]at f |-;exact f
 .rw[h2 Qa]at L;exact h.old i g p R L
 .cases A;exact⟨k,j,n,s,Q,rfl,O⟩
def Co.take(aL:E.sh=true)(h:Co E W0 J .run M S gs w t q) {I:Node} (h0:M 0=some I) {fa:Frame} {ca:List Frame} (hg:gs[0]?=some (G fa ca))(aU:q 0=0) {k p:Nat} {j:Job} (hj:J k=some j)(hS:S k=some p) {v:Value} (hv:bH 8 v=true)(hc:w.heap[j.ch]?=some (.chan 1 #[v] false 1 0 false)) {fn:FuncId} {pos:String}:Co E W0 J .run (upd M 0 (some {I with f:=I.f.finish v})) (upd S k none) (gs.setIfInBounds 0 (G (fa.finish v) ca)) (w.setChan j.ch 1 #[] false 1 1 false)
   (t++#[{g:=0,fn,pos,act:=.recv j.ch 0 1},{g:=0,fn,pos,act:=.recvDone j.ch 0}]) q:=by
 have aE:j.ch<w.heap.size:=(bP.1 hc).1;have aG:0<gs.size:=(bP.1 hg).1;have hk:M k=none/\0<k:=h.excl k p hS;have aQ:Deaf t 0=0:=h.deaf 0 (.inl (by rw[h0];simp));have aA:∀{i:Nat} {m:Node} {b x:Nat},M i=some m->m.B b x->x≠j.ch:=by intro i m b x r O e;exact h.chan_free r hc b (e▸O)
 have aZ:=h.fresh k j hj;obtain⟨v0,_,_,⟨aX,aB,aH⟩,aI⟩:=h.chanS k j p hj hS;have aK:=gV aB;have H:(w.setChan j.ch 1 #[] false 1 1 false).heap.size=w.heap.size:=by simp[World.setChan]
 generalize V:({g:=0,fn,pos,act:=.recv j.ch 0 1}:MemOp)=L;generalize K:({g:=0,fn,pos,act:=.recvDone j.ch 0}:MemOp)=N;have hT:Tr M S w.heap.size (t++#[L,N]):=Zm [L,N] h.tr (by simp[<-V,<-K,MemAct.touch?,MemAct.low,aE]);have hn:∀Z∈(#[L,N]:Trace),Z.act.touch?=none:=by simp[<-V,<-K,MemAct.touch?]
 have aS:∀Z∈(#[L,N]:Trace),Z.act≠.mark .disable/\Z.act≠.mark .enable:=by simp[<-V,<-K]
 have aT:∀Z∈(#[L]:Trace),Z.act≠.mark .disable/\Z.act≠.mark .enable:=by simp[<-V]
 have g1:(t++#[L,N])[t.size+1]?=some N:=K0 (t:=t) (u:=#[L,N]) (i:=1) rfl;have e1:t++#[L,N]=(t++#[L])++#[N]:=by apply Array.ext';simp
 have d1:(t++#[L,N]).deaf 0 (t.size+1)=0:=by
  rw[e1,Q7 Qd];have:(t++#[L]).size=t.size+1:=Qd
  rw[<-this];exact(LS t 0 _ aT).trans aQ
 have hD:∀g,Deaf (t++#[L,N]) g=Deaf t g:=fun g=>LS t g _ aS;have aC:∀i,Before t i p->Knows (t++#[L,N]) 0 i:=fun i r=>yF (c:=j.ch) (x:=aX) (by rw[gX aK];exact aB) aH ((gY aK).2 aI) g1 (by rw[<-K]) (by rw[<-K]) (lY g1 (by rw[<-K]) d1) (r.app _);obtain⟨aO,aM,x',aF,aD,aV⟩:=h.live 0 I h0;rw[hg]at aF;rcases aD with⟨_,aD⟩|⟨aY,_⟩;case inr=>omega
 have he:=(D3 aF).trans aD;have aN:fa=aO/\ca=aM:=by simp only[bT,G,hA,bQ]at he;exact he
 obtain⟨rfl,rfl⟩:=aN;have R:∀i m,upd M 0 (some {I with f:=I.f.finish v}) i=some m->∃m',M i=some m'/\m'.B=m.B/\m'.sh=m.sh:=by
  intro i m r;rcases upd_some r with⟨rfl,rfl⟩|⟨_,r⟩;·exact⟨I,h0,rfl,rfl⟩
  .exact⟨m,r,rfl,rfl⟩
 refine⟨fun i m r=>?_,fun i x r C D=>?_,fun i r=>?_,by rw[upd_same];simp,fun a b m m' c d x aP ha O hc hd=>?_,⟨hT.clean,by rw[H];exact hT.seen,fun i a ha C x m D=>?_,fun i a ha C=>?_⟩,fun i j' m r C=>?_,fun i j' p' r hp=>?_,fun i r C=>?_,h.one,h.fresh,fun i p' hp=>?_,(by intro c zz aW;cases aW),fun i j' m r aR C=>?_,fun i m b x C O D=>?_,?_,h.same⟩
 .rcases upd_some r with⟨rfl,rfl⟩|⟨A,r⟩;·refine⟨fa.finish v,ca,_,by rw[bR aG];rfl,.inl ⟨aU,rfl⟩,?_⟩;have s:Rel E I.sh I.bs I.B I.f I.cs I.l fa ca (w.setChan j.ch 1 #[] false 1 1 false):=gG aL aV (by rw[H];exact r3 _) fun b x O=>x8 (aA h0 O);exact⟨s.st.top (s.st.head.finish (VR.closed 8 v hv)) (Blk.le_refl _) (eR _ _),s.wr,s.low⟩
  .obtain⟨fi,ci,x,F,Q,s⟩:=h.live i m r;exact⟨fi,ci,x,by rw[h2 (fun e=>A e.symm)];exact F,Q,gG aL s (by rw[H];exact r3 _) fun b x O=>x8 (aA r O)⟩
 .have A:i≠0:=Qa
  rw[upd_ne _ _ A]at C;rw[h2 (fun e=>A e.symm)]at D;rw[hD];exact h.old i x r C D
 .rw[hD];refine h.deaf i (r.imp (fun x=>?_) fun x=>by simpa using x);by_cases A:i=0;·subst A;rw[h0];simp
  .rwa [upd_ne _ _ A]at x
 .obtain⟨m1,F,s,Q⟩:=R a m ha;obtain⟨m2,h4,h5,h6⟩:=R b m' O;have:=h.apart a b m1 m2 c d x aP F h4 (s▸hc) (h5▸hd);rw[Q,h6]at this;exact this
 .obtain⟨m1,F,s,Q⟩:=R x m D;refine(hT.known i a ha C x m1 F).imp id fun hf b y O hy=>?_;have:=hf b y (by rw[s];exact O) hy;rw[Q]at this;exact this
 .rcases h.tr.hand i a (mW hn ha) C with x|⟨i',m,F,s⟩|⟨i',p',F,s⟩;·exact .inl (x.app _)
  .by_cases A:i'=0;·subst A;exact .inl (s.app _)
   .exact .inr (.inl ⟨i',m,by rw[upd_ne _ _ A];exact F,s.app _⟩)
  .by_cases e:i'=k;·subst e;rw[hS]at F;cases F;exact .inl (aC i s)
   .exact .inr (.inr ⟨i',p',by rw[upd_ne _ _ e];exact F,s.app _⟩)
 .have T:i≠k:=by rintro rfl;rw[upd_ne _ _ Qa,hk.1]at C;cases C
  rw[x8 fun e=>T (h.one i k j' j r hj e)];rcases upd_some C with⟨rfl,rfl⟩|⟨_,C⟩;·exact h.chanM 0 j' I r h0
  .exact h.chanM i j' m r C
 .obtain⟨T,hp⟩:=iO hp;obtain⟨v',F,s,⟨Z,Q,h4⟩,h5⟩:=h.chanS i j' p' r hp;have aJ:=gV Q;exact⟨v',F,by rw[x8 fun e=>T (h.one i k j' j r hj e)];exact s,⟨Z,by rw[gX aJ];exact Q,h4⟩,(gY aJ).2 h5⟩
 .refine h.job i r (C.imp (fun x=>by rwa [upd_ne _ _ (show i≠0 by omega)]at x) fun x=>?_);by_cases e:i=k;·subst e;rw[upd_same]at x;exact absurd rfl x
  .rwa [upd_ne _ _ e]at x
 .obtain⟨T,hp⟩:=iO hp;obtain⟨F,s⟩:=h.excl i p' hp;exact⟨by rw[upd_ne _ _ (show i≠0 by omega)];exact F,s⟩
 .rcases upd_some C with⟨rfl,rfl⟩|⟨_,C⟩;·omega
  .exact h.stops i j' m r aR C
 .obtain⟨m1,F,s,Q⟩:=R i m C;rw[<-Q];exact h.base i m1 b x F (by rw[s];exact O) D
 .rw[H];exact⟨h.keep.1,fun x D=>by rw[x8 Qa];exact h.keep.2 x D⟩
end
section
variable {E:Env} {W0:World} {J:Nat->Option Job} {z:Zs} {M:Nat->Option Node} {S:Nat->Option Nat} {gs:Array Goroutine} {w w':World} {t u:Trace} {q:Nat->Nat} {sl:Option (Nat×Nat)}
def Rel.fin{a:Nat->Prop} {bs:List Frame} {B:Blk} {f fa:Frame} {cs ca:List Frame} {l:World} (h:Rel E a bs B f cs l fa ca w) {v c:Value} (b:VR E B v c):Rel E a bs B (f.finish v) cs l (fa.finish c) ca w:=⟨h.st.top (h.st.head.finish b) (Blk.le_refl _) (eR _ _),h.wr,h.low⟩
def Co.made(aF:E.sh=true)(h:Co E W0 J .run M S gs w t q) {C:Node} (k:M 0=some C) {fa:Frame} {ca:List Frame} (hg:gs[0]?=some (G fa ca))(aN:q 0=0) {v:Value} (hv:VR E C.B v v) {o:Obj} (hw:w'.heap=w.heap.push o)(X:w'.os=w.os/\w'.output=w.output/\w'.tape=w.tape):Co E W0 J .run (upd M 0 (some {C with f:=C.f.finish v})) S ((gs.map (woken E.P (G fa ca) (G (fa.finish v) ca) w')).setIfInBounds 0 (G (fa.finish v) ca)) w' t q:=by
 have aC:0<gs.size:=(bP.1 hg).1;have n:∀x,x<w.heap.size->w'.heap[x]?=w.heap[x]?:=fun x A=>by rw[hw,cX A,y1 A]
 have K:w.heap.size<=w'.heap.size:=by rw[hw];simp
 have V:∀{x:Nat} {o:Obj},w.heap[x]?=some o->x<w.heap.size:=fun h=>(bP.1 h).1;have Q:∀{x:Nat} {o:Obj},w.heap[x]?=some o->w'.heap[x]?=some o:=fun A=>by rw[n _ (V A)];exact A
 obtain⟨aK,aH,x',aB,R,aE⟩:=h.live 0 C k;rw[hg]at aB;rcases R with⟨_,R⟩|⟨aP,_⟩;case inr=>omega
 have he:=(D3 aB).trans R;have aJ:fa=aK/\ca=aH:=by simp only[bT,G,hA,bQ]at he;exact he
 obtain⟨rfl,rfl⟩:=aJ;have N:∀i m,upd M 0 (some {C with f:=C.f.finish v}) i=some m->∃l,M i=some l/\l.B=m.B/\l.sh=m.sh:=by
  intro i m g;rcases upd_some g with⟨rfl,rfl⟩|⟨_,g⟩;·exact⟨C,k,rfl,rfl⟩
  .exact⟨m,g,rfl,rfl⟩
 have aA:∀j,upd M 0 (some {C with f:=C.f.finish v}) j≠none->M j≠none:=by
  intro j hj;by_cases e:j=0;·subst e;rw[k];simp
  .rwa [upd_ne _ _ e]at hj
 have aO:∀c zz,Zs.run=.park c zz->∃aI aG s r tm,w'.heap[c]?=some (.chan aI aG false s r tm):=by intro c zz T;cases T
 refine⟨fun i m g=>?_,fun i x g p A=>?_,fun i g=>h.deaf i (g.imp (aA i) fun x=>by simpa using x),by rw[upd_same];simp,fun a b m l c d x aL U O hc hd=>?_,(h.tr.renode (n':={C with f:=C.f.finish v}) k fun a U=>U).mono K,fun i Z m g p=>?_,fun i Z Y g W=>?_,fun i g p=>h.job i g (p.imp (aA i) id),h.one,h.fresh,fun i Y W=>?_,(by intro c zz T;cases T),fun i Z m g aM p=>?_,fun i m b x p O A=>?_,?_,⟨X.1.trans h.same.1,X.2.1.trans h.same.2.1,X.2.2.trans h.same.2.2⟩⟩
 .rcases upd_some g with⟨rfl,rfl⟩|⟨I,g⟩;·refine⟨fa.finish v,ca,G (fa.finish v) ca,by rw[bR (by simpa using aC)],.inl ⟨aN,rfl⟩,?_⟩;exact(gG aF aE K fun b x O=>n x (D5 aE O).1).fin hv
  .obtain⟨fi,ci,x,H,L,F⟩:=h.live i m g;exact⟨fi,ci,x,by rw[F1 I,H,hD,L.woken aO],L,gG aF F K fun b x O=>n x (D5 F O).1⟩
 .have I:i≠0:=Qa
  rw[upd_ne _ _ I]at p;rw[F1 I]at A;obtain⟨y,hy,rfl⟩:=n2.1 A;have aD:=h.old i y g p hy;rw[iF aD];exact aD
 .obtain⟨m1,H,F,L⟩:=N a m U;obtain⟨m2,h4,D,h6⟩:=N b l O;have:=h.apart a b m1 m2 c d x aL H h4 (F▸hc) (D▸hd);rw[L,h6]at this;exact this
 .rcases upd_some p with⟨rfl,rfl⟩|⟨_,p⟩;·exact Q (h.chanM 0 Z C g k)
  .exact Q (h.chanM i Z m g p)
 .obtain⟨v',H,F,L,D⟩:=h.chanS i Z Y g W;exact⟨v',H,Q F,L,D⟩
 .obtain⟨H,F⟩:=h.excl i Y W;exact⟨by rw[upd_ne _ _ (show i≠0 by omega)];exact H,F⟩
 .rcases upd_some p with⟨rfl,rfl⟩|⟨_,p⟩;·omega
  .exact h.stops i Z m g aM p
 .obtain⟨m1,H,F,L⟩:=N i m p;rw[<-L];exact h.base i m1 b x H (by rw[F];exact O) A
 .exact⟨l3 h.keep.1 K,fun x A=>by rw[n x (h8 A h.keep.1)];exact h.keep.2 x A⟩
def Co.spawn(h:Co E W0 J .run M S gs w t q) {N nK:Node} (o:M 0=some N) {fa fc:Frame} {ca cc:List Frame} (hg:gs[0]?=some (G fa ca))(bI:q 0=0) {jb:Job} (aW:J gs.size=none)(bG:nK.bs=jb.bs)(bH:nK.stop=jb.stop)(aY:w.heap[jb.ch]?=some (.chan 1 #[] false 0 0 false))(aF:∀k j,J k=some j->j.ch≠jb.ch)(aB:W0.heap.size<=jb.ch) {child:Goroutine} (aZ:child.status=.running)(bA:∀w,stepG E.P false child w=.go (G fc cc) w #[])(hR:Rel E nK.sh nK.bs nK.B nK.f nK.cs nK.l fc cc w)(hB:∀b x,nK.B b x->nK.sh b/\∃R,N.B R x/\N.sh R) {fn fn':FuncId} {pos:String}:Co E W0 (upd J gs.size (some jb)) .run (upd (upd M 0 (some {N with f:=N.f.finish undef})) gs.size (some nK)) S ((gs.setIfInBounds 0 (G (fa.finish undef) ca)).push child) w (t++#[{g:=0,fn,pos,act:=.go gs.size},{g:=gs.size,fn:=fn',pos,act:=.start}]) (upd q gs.size 1):=by
 have aR:0<gs.size:=(bP.1 hg).1;have aL:gs.size≠0:=Qa
 obtain⟨aV,aT,x',aP,aK,aJ⟩:=h.live 0 N o;rw[hg]at aP;rcases aK with⟨_,aK⟩|⟨bL,_⟩;case inr=>omega
 have he:=(D3 aP).trans aK;have aU:fa=aV/\ca=aT:=by simp only[bT,G,hA,bQ]at he;exact he
 obtain⟨rfl,rfl⟩:=aU;have aM:∀i m,M i=some m->i<gs.size:=by intro i m A;obtain⟨_,_,_,s,_⟩:=h.live i m A;exact(bP.1 s).1
 have aN:S gs.size=none:=by cases hs:S gs.size with|none=>rfl|some p=>obtain⟨j,hj⟩:=h.job gs.size Qa (.inr (by rw[hs];simp));rw[aW]at hj;cases hj
 have aA:∀k j,upd J gs.size (some jb) k=some j->(k=gs.size/\j=jb)∨(k≠gs.size/\J k=some j):=fun k j=>upd_some;have bB:Deaf t 0=0:=h.deaf 0 (.inl (by rw[o];simp));have aO:Deaf t gs.size=0:=h.deaf gs.size (.inr (r3 _));generalize K:({g:=0,fn,pos,act:=.go gs.size}:MemOp)=C;generalize L:({g:=gs.size,fn:=fn',pos,act:=.start}:MemOp)=H;have hT:Tr M S w.heap.size (t++#[C,H]):=Zm [C,H] h.tr (by simp[<-K,<-L,MemAct.touch?,MemAct.low]);have hn:∀op∈(#[C,H]:Trace),op.act.touch?=none:=by simp[<-K,<-L,MemAct.touch?]
 have bE:∀op∈(#[C,H]:Trace),op.act≠.mark .disable/\op.act≠.mark .enable:=by simp[<-K,<-L]
 have bF:∀op∈(#[C]:Trace),op.act≠.mark .disable/\op.act≠.mark .enable:=by simp[<-K]
 have g0:(t++#[C,H])[t.size]?=some C:=by have:=K0 (t:=t) (u:=#[C,H]) (i:=0) rfl;rwa [sW]at this
 have g1:(t++#[C,H])[t.size+1]?=some H:=K0 (t:=t) (u:=#[C,H]) (i:=1) rfl;have e1:t++#[C,H]=(t++#[C])++#[H]:=by apply Array.ext';simp
 have d1:(t++#[C,H]).deaf gs.size (t.size+1)=0:=by
  rw[e1,Q7 Qd];have:(t++#[C]).size=t.size+1:=Qd
  rw[<-this];exact(LS t gs.size _ bF).trans aO
 have d0:(t++#[C,H]).deaf 0 t.size=0:=by rw[Q7 (r3 _)];exact bB
 have hD:∀g,Deaf (t++#[C,H]) g=Deaf t g:=fun g=>LS t g _ bE;have aI:∀i,Knows t 0 i->Knows (t++#[C,H]) gs.size i:=fun i A=>⟨t.size+1,H,g1,by rw[<-L],.inr ((A.hb_new (y:=C) (r3 _) g0 (by rw[<-K])).trans (.single (.inr ⟨.spawn (child:=gs.size) (by simp[Trace.act?,<-K]) (by simp[Trace.act?,<-L]) (by simp[Trace.g?,<-L]),lY g0 (by rw[<-K]) d0,lY g1 (by rw[<-L]) d1⟩)))⟩;have I:∀i m,upd (upd M 0 (some {N with f:=N.f.finish undef})) gs.size (some nK) i=some m->(i=gs.size/\m=nK)∨(i≠gs.size/\∃D,M i=some D/\D.B=m.B/\D.sh=m.sh/\(i≠0->D=m)/\(i=0->m={N with f:=N.f.finish undef}/\D=N)):=by
  intro i m A;rcases upd_some A with⟨s,v⟩|⟨s,v⟩;·exact .inl ⟨s,v⟩
  .rcases upd_some v with⟨rfl,rfl⟩|⟨O,Q⟩;·exact .inr ⟨s,N,o,rfl,rfl,fun e=>absurd rfl e,fun _=>⟨rfl,rfl⟩⟩
   .exact .inr ⟨s,m,Q,rfl,rfl,fun _=>rfl,fun e=>absurd e O⟩
 have aD:∀i,i≠0->i≠gs.size->((gs.setIfInBounds 0 (G (fa.finish undef) ca)).push child)[i]?=gs[i]?:=by intro i s v;rw[dZ];rw[q' (by simpa using v),h2 (fun e=>s e.symm)]
 have aG:((gs.setIfInBounds 0 (G (fa.finish undef) ca)).push child)[0]?=some (G (fa.finish undef) ca):=by rw[dZ,q' (by simpa using fun e=>aL e.symm),bR aR]
 have aH:((gs.setIfInBounds 0 (G (fa.finish undef) ca)).push child)[gs.size]?=some child:=by rw[dZ,Zc9 Qd]
 refine⟨fun i m A=>?_,fun i x A F hx=>?_,fun i A=>?_,?_,fun a b m D c d x aX ha U hc hd=>?_,⟨hT.clean,hT.seen,fun i a ha F x m hx=>?_,fun i a ha F=>?_⟩,fun i V m A F=>?_,fun i V p' A Y=>?_,fun i A F=>?_,fun k k' j V W bD he=>?_,fun k j W=>?_,fun i p' Y=>?_,(by intro c zz bJ;cases bJ),fun i V m A aC F=>?_,fun i m b x F U hx=>?_,h.keep,h.same⟩
 .rcases I i m A with⟨rfl,rfl⟩|⟨r,D,s,v,O,Q,Z⟩;·exact⟨fc,cc,child,aH,.inr ⟨Qa,upd_same _ _ _,aZ,bA⟩,hR⟩
  .by_cases e:i=0;·subst e;obtain⟨rfl,rfl⟩:=Z rfl;exact⟨fa.finish undef,ca,G (fa.finish undef) ca,aG,.inl ⟨by rw[upd_ne _ _ r];exact bI,rfl⟩,aJ.fin undefR⟩
   .obtain rfl:=Q e;obtain⟨fi,ci,y,g1,g2,g3⟩:=h.live i D s;exact⟨fi,ci,y,by rw[aD i e r];exact g1,by rw[upd_ne _ _ r];exact g2,g3⟩
 .have T:i≠0:=Qa
  have r:i≠gs.size:=by rintro rfl;rw[upd_same]at F;cases F
  rw[upd_ne _ _ r,upd_ne _ _ T]at F;rw[aD i T r]at hx;rw[hD,upd_ne _ _ r];exact h.old i x A F hx
 .rw[hD];by_cases r:i=gs.size;·subst r;exact aO
  .refine h.deaf i (A.imp (fun x=>?_) fun x=>by simp at x;omega);rw[upd_ne _ _ r]at x;by_cases e:i=0;·subst e;rw[o];simp
   .rwa [upd_ne _ _ e]at x
 .rw[upd_ne _ _ (fun e=>aL e.symm),upd_same];simp
 .rcases I a m ha with⟨ea,rfl⟩|⟨bM,m1,s,v,O,_⟩<;>rcases I b D U with⟨eb,rfl⟩|⟨bN,m2,Q,Z,h6,_⟩;·omega
  .obtain⟨k1,R,k2,k3⟩:=hB c x hc;refine⟨k1,?_⟩;rw[<-h6];by_cases e:b=0;·subst e;rw[o]at Q;cases Q;have:R=d:=aJ.wr.inj R d x k2 (by rw[Z];exact hd);rw[<-this];exact k3
   .exact(h.apart 0 b N m2 R d x (fun y=>e y.symm) o Q k2 (by rw[Z];exact hd)).2
  .obtain⟨k1,R,k2,k3⟩:=hB d x hd;refine⟨?_,k1⟩;rw[<-O];by_cases e:a=0;·subst e;rw[o]at s;cases s;have:R=c:=aJ.wr.inj R c x k2 (by rw[v];exact hc);rw[<-this];exact k3
   .exact(h.apart a 0 m1 N c R x e s o (by rw[v];exact hc) k2).1
  .have:=h.apart a b m1 m2 c d x aX s Q (by rw[v];exact hc) (by rw[Z];exact hd);rw[O,h6]at this;exact this
 .rcases I x m hx with⟨rfl,rfl⟩|⟨_,m1,s,v,O,_⟩
  .rcases h.tr.known i a (mW hn ha) F 0 N o with W|hf;·exact .inl (aI i W)
   .refine .inr fun b y U hy=>?_;obtain⟨k1,R,k2,k3⟩:=hB b y U;exact⟨k1,(hf R y k2 hy).2⟩
  .refine(hT.known i a ha F x m1 s).imp id fun hf b y U hy=>?_;have:=hf b y (by rw[v];exact U) hy;rw[O]at this;exact this
 .rcases h.tr.hand i a (mW hn ha) F with x|⟨i',m,s,v⟩|⟨i',p',s,v⟩;·exact .inl (x.app _)
  .by_cases T:i'=0;·subst T;exact .inl (v.app _)
   .refine .inr (.inl ⟨i',m,?_,v.app _⟩);have:=aM i' m s;rw[upd_ne _ _ (show i'≠gs.size by omega),upd_ne _ _ T];exact s
  .exact .inr (.inr ⟨i',p',s,v.app _⟩)
 .rcases aA i V A with⟨rfl,rfl⟩|⟨r,A⟩;·exact aY
  .rcases I i m F with⟨e,_⟩|⟨_,m1,s,_⟩;·exact absurd e r
   .exact h.chanM i V m1 A s
 .have r:i≠gs.size:=by rintro rfl;rw[aN]at Y;cases Y
  rw[upd_ne _ _ r]at A;obtain⟨v',s,v,⟨op,O,Q⟩,Z⟩:=h.chanS i V p' A Y;have aS:=gV O;exact⟨v',s,v,⟨op,by rw[gX aS];exact O,Q⟩,(gY aS).2 Z⟩
 .by_cases r:i=gs.size;·subst r;exact⟨jb,upd_same _ _ _⟩
  .rw[upd_ne _ _ r];refine h.job i A (F.imp (fun x=>?_) id);rwa [upd_ne _ _ r,upd_ne _ _ Qa]at x
 .rcases aA k j W with⟨e1,e2⟩|⟨bO,aQ⟩<;>rcases aA k' V bD with⟨e3,e4⟩|⟨bK,aE⟩;·rw[e1,e3]
  .exact absurd (by rw[<-e2];exact he.symm) (aF k' V aE)
  .exact absurd (by rw[<-e4];exact he) (aF k j aQ)
  .exact h.one k k' j V aQ aE he
 .rcases aA k j W with⟨rfl,rfl⟩|⟨_,W⟩;·exact aB
  .exact h.fresh k j W
 .have r:i≠gs.size:=by rintro rfl;rw[aN]at Y;cases Y
  obtain⟨s,v⟩:=h.excl i p' Y;exact⟨by rw[upd_ne _ _ r,upd_ne _ _ (show i≠0 by omega)];exact s,v⟩
 .rcases I i m F with⟨rfl,rfl⟩|⟨r,m1,s,v,O,Q,Z⟩;·rw[upd_same]at aC;cases aC;exact⟨bH,bG⟩
  .rw[upd_ne _ _ r]at aC;obtain rfl:=Q Qa;exact h.stops i V m1 A aC s
 .rcases I i m F with⟨rfl,rfl⟩|⟨r,m1,s,v,O,Q,Z⟩;·exact(hB b x U).1
  .rw[<-O];exact h.base i m1 b x s (by rw[v];exact U) hx
end
structure Ready (E:Env)(W0:World)(J:Nat->Option Job)(U:Nat->Prop)(Ch:Option Nat)(n:Node)(M:Nat->Option Node)(S:Nat->Option Nat)(gs:Array Goroutine)(w:World)(t:Trace)(q:Nat->Nat)(fa:Frame)(ca:List Frame):Prop where
 co:Co E W0 J .run M S gs w t q
 tree:W E (upd M 0 none)
 halts:∀i m,0<i->M i=some m->Halts m.stop
 un:Un U M S
 node:∃s,M 0=some {n with stop:=s}
 gs0:gs[0]?=some (G fa ca)
 q0:q 0=0
 rel:Rel E n.sh n.bs n.B n.f n.cs n.l fa ca w
 pend:∀c,Ch=some c->w.heap[c]?=some (.chan 1 #[] false 0 0 false)/\W0.heap.size<=c/\∀k j,J k=some j->j.ch≠c
 jlt:∀k j,J k=some j->k<gs.size/\j.ch<w.heap.size
def eT(E:Env)(d:World)(J:Nat->Option Job)(U:Nat->Prop)(c:Option Nat)(a:Value->World->Prop)(n:Node):Prop:=∀{M:Nat->Option Node} {S:Nat->Option Nat} {b:Array Goroutine} {w:World} {sl:Option (Nat×Nat)} {t:Trace} {q:Nat->Nat} {fa:Frame} {ca:List Frame},Ready E d J U c n M S b w t q fa ca->mX E.P a b w sl t 0
def KGo(E:Env)(d:World)(J:Nat->Option Job)(U:Nat->Prop)(c:Option Nat)(a:Value->World->Prop)(n:Node):Prop:=∀{M:Nat->Option Node} {S:Nat->Option Nat} {b:Array Goroutine} {w:World} {sl:Option (Nat×Nat)} {t:Trace} {q:Nat->Nat} {fa:Frame} {ca:List Frame},Ready E d J U c n M S b w t q fa ca->Fin E.P a b w sl t
section
variable {E:Env} {W0:World} {J:Nat->Option Job} {U:Nat->Prop} {Ch:Option Nat} {Post:Value->World->Prop} {n:Node}
def Zt{M:Nat->Option Node} {S:Nat->Option Nat} {a:Array Goroutine} {w:World} {t:Trace} {q:Nat->Nat} {fa:Frame} {ca:List Frame} (h:Ready E W0 J U Ch n M S a w t q fa ca)(s:Frame->List Frame->World->Prop):Co E W0 J .run (upd M 0 (some {n with stop:=s})) S a w t q:=by obtain⟨j,f⟩:=h.node;exact h.co.renode f h.gs0 h.q0 h.rel fun c x g=>⟨c,g,id⟩
def ON(P:E.Fine)(O:E.sh=true)(X:∀k j,J k=some j->dG E j) {a:Frame->List Frame->World->Prop} (hS:Halts a)(Y:LG E a n.f n.cs n.l)(k:∀d,d.sh=n.sh->d.bs=n.bs->n.B.le d.B->a d.f d.cs d.l->eT E W0 J U Ch Post d):KGo E W0 J U Ch Post n:=by
 intro M S gs w sl t q fa ca h;have T:=Zt h a;have hT:W E (upd M 0 (some {n with stop:=a})):=by have:=h.tree.add Y (upd_same _ _ _) n.sh n.bs n.B;rwa [bZ]at this
 obtain⟨s0,h0⟩:=h.node;refine yG (U:=U) P O X hT T (fun i m p=>?_) (fun x hx=>?_) ?_ (by intro _ _ _ _ _ _ _ _ _ _ _ _ e;cases e)
 .rcases upd_some p with⟨_,rfl⟩|⟨A,p⟩;·exact hS
  .exact h.halts i m (iH A) p
 .rw[upd_ne _ _ Qa];exact h.un x hx
 .intro M' S' aA w' aB t' q' d Z V _ F K v s I Q r y L N H;obtain⟨n1,A,u,z,D,G⟩:=v.node 0 d r;rw[upd_same]at A;cases A;refine k d u z G (by rw[D]at y;exact y) ⟨F,K,fun i m p hm=>?_,I,⟨d.stop,r⟩,L,N,H,fun c hc=>?_,fun k' j hj=>?_⟩;·obtain⟨m1,g,_,_,o,_⟩:=v.node i m hm;rw[upd_ne _ _ Qa]at g;rw[o];exact h.halts i m1 p g
  .obtain⟨g,C,R⟩:=h.pend c hc;refine⟨?_,C,R⟩;rw[(s.2 c (bP.1 g).1 (fun i m b p hb=>absurd hb (T.chan_free p g b)) R).1];exact g
  .obtain⟨g,C⟩:=h.jlt k' j hj;exact⟨by rw[Q];exact g,h8 C s.1⟩
def Co.offers_send{z:Zs} {M:Nat->Option Node} {S:Nat->Option Nat} {a:Array Goroutine} {w:World} {t:Trace} {q:Nat->Nat} (h:Co E W0 J z M S a w t q)(c:Nat):partners (a.setIfInBounds 0 ph) c true=[]:=by
 refine partners_nil fun j g m=>?_;rcases o0 a 0 j g m with⟨rfl,rfl⟩|⟨p,m⟩;·rfl
 .rcases h.status m with f|f|⟨e,_⟩;·exact lF (by rw[f];simp) _ _
  .exact lF (by rw[f];simp) _ _
  .exact absurd e p
def OO(hG:E.Fine)(aC:E.sh=true)(hJ:∀k j,J k=some j->dG E j) {k:Nat} {j:Job} (hk:0<k)(T:J k=some j)(hU:U k)(hV:∀v,j.V v->bH 8 v=true)(hst:∀{fa:Frame} {ca:List Frame} {w:World},Rel E n.sh n.bs n.B n.f n.cs n.l fa ca w->∃u,stepG E.P true (G fa ca) w=.comm (G fa ca) #[rcase j.ch u] true (.recv false) w #[])(kk:∀v,j.V v->KGo E W0 J (fun x=>U x/\x≠k) none Post {n with f:=n.f.finish v}):eT E W0 J U none Post n:=by intro M S gs w sl t q fa ca h;obtain⟨u,N⟩:=hst h.rel;obtain⟨s0,h0⟩:=h.node;have I:0<gs.size:=(bP.1 h.gs0).1;have s:stepG E.P (0==0) (G fa ca) w=.comm (G fa ca) #[rcase j.ch u] true (.recv false) w #[]:=N;cases z:S k with
 |some p=>
  obtain⟨v,D,H,_,_⟩:=h.co.chanS k j p T z;have r:=crowd_recv_buf (P:=E.P) (sl:=sl) (shape:=.recv false) h.gs0 s H Qd (h.co.offers_send j.ch);rw[K4]at r;simp only[mR]at r;have C:=h.co.take aC h0 h.gs0 h.q0 T z (hV v D) H (fn:=(G fa ca).frame.fn) (pos:=(G fa ca).frame.place);have Q:M k=none:=(h.co.excl k p z).1;refine⟨_,_,_,_,r,kk v D (fa:=fa.finish v) (ca:=ca) ⟨C,by rw[bZ];exact h.tree,fun i m O b=>?_,fun x o=>?_,⟨s0,upd_same _ _ _⟩,?_,h.q0,?_,(by intro c H;cases H),fun Y X F=>?_⟩⟩;·rw[upd_ne _ _ Qa]at b;exact h.halts i m O b
  .rw[upd_ne _ _ (show x≠0 by omega)];by_cases e:x=k;·subst e;rw[upd_same,Q];simp
   .rw[upd_ne _ _ e,h.un x o];simp[e]
  .exact bR I
  .obtain⟨L,K,g,R,A,g3⟩:=C.live 0 _ (upd_same _ _ _);rw[bR I]at R;rcases A with⟨_,A⟩|⟨A,_⟩;case inr=>omega
   have e:=(D3 R).trans A;have e2:fa.finish v=L/\ca=K:=by simp only[bT,G,hA,bQ]at e;exact e
   obtain⟨rfl,rfl⟩:=e2;exact g3
  .obtain⟨R,A⟩:=h.jlt Y X F;exact⟨by simpa using R,by simpa [World.setChan] using A⟩|none=>
  have Q:M k≠none:=by
   rcases(h.un k hk).1 hU with x|x;·exact x
   .exact absurd z x
  obtain⟨m,b⟩:∃m,M k=some m:=by cases e:M k with
   |none=>exact absurd e Q|some m=>exact⟨m,rfl⟩
  let a:Frame->List Frame->World->Prop:=fun f cs _=>cs≠[]/\∀c,f.mode≠.panicking c;have aH:Halts a:=⟨fun f cs l h=>h,fun f cs l t d h=>h⟩;have aD:a n.f n.cs n.l:=by refine⟨?_,h.rel.st.head.noPanic.1⟩;have:=h.rel.st;intro e;rw[e]at this;cases this with|cons _ _ _ _ _ _ hs=>cases hs
  have aF:=Zt h a;have aJ:W E (upd M 0 (some {n with stop:=a})):=by have:=h.tree.add (LG.stop n.f n.cs n.l aD) (upd_same _ _ _) n.sh n.bs n.B;rwa [bZ]at this
  have aA:upd M 0 (some {n with stop:=a}) k=some m:=by rw[upd_ne _ _ Qa];exact b
  have aG:=aF.park (upd_same _ _ _) h.gs0 h.q0 hk T aA u;have H:=h.co.chanM k j m T b;have r:=crowd_waits (P:=E.P) (sl:=sl) (shape:=.recv false) h.gs0 s (by
   intro cc aM;obtain rfl:cc=rcase j.ch u:=by simpa using aM
   exact ways_recv_none H (h.co.offers_send j.ch));rw[K4]at r;refine⟨_,_,_,_,r,?_⟩;rw[fY];refine yG (U:=U) hG aC hJ aJ aG (fun i m' O=>?_) (fun x o=>?_) (by intro _ _ _ _ _ _ _ _ _ _ e;cases e) ?_
  .rcases upd_some O with⟨_,rfl⟩|⟨h1,O⟩;·exact aH
   .exact h.halts i m' (iH h1) O
  .rw[upd_ne _ _ Qa];exact h.un x o
  .intro M' S' aU w' aV t' q' n1 v aW Y X hz F D aB aI C aL Z aT aK aS aE;have aO:X.ch=j.ch:=by simp only[Zs.park.injEq]at hz;exact hz.1.symm
   have aP:Y=k:=h.co.one Y k X j F T aO;subst aP;rw[T]at F;cases F;rw[upd_same]at aB;cases aB;obtain⟨L,K,g,R,A,g3⟩:=C.live 0 _ Z;rcases A with⟨aR,A⟩|⟨A,_⟩;case inr=>omega
   have e:g=G L K:=A;subst e;refine kk v D ⟨C,aL,fun i m' O aQ=>?_,fun x o=>?_,⟨_,Z⟩,R,aR,g3,(by intro c H;cases H),fun k2 j2 aN=>?_⟩;·obtain⟨m1,q1,_,_,q4,_⟩:=aI.node i m' (by rw[upd_ne _ _ Qa];exact aQ);rw[upd_ne _ _ Qa]at q1;rw[q4];exact h.halts i m1 O q1
   .obtain⟨u1,u2⟩:=aK x o;constructor;·rintro⟨a1,a2⟩;cases e1:M' x with|some _=>exact .inl Qd|none=>cases e2:S' x with
      |some _=>exact .inr Qd|none=>
       rcases u1 e2 e1 with y|y;·exact absurd a1 y
       .exact absurd y a2
    .exact u2
   .obtain⟨g4,g5⟩:=h.jlt k2 j2 aN;exact⟨by rw[aS];simpa using g4,h8 g5 aE⟩
end
section
variable {E:Env} {W0:World} {J:Nat->Option Job} {U:Nat->Prop} {Ch:Option Nat} {Post:Value->World->Prop} {n:Node}
def OP(r:E.sh=true)(a:∀{fa:Frame} {ca:List Frame} {w:World},Rel E n.sh n.bs n.B n.f n.cs n.l fa ca w->stepG E.P true (G fa ca) w=.go (G (fa.finish (.chan (some w.heap.size))) ca) (w.alloc (.chan 1 #[] false 0 0 false)) #[])(V:∀c,W0.heap.size<=c->KGo E W0 J U (some c) Post {n with f:=n.f.finish (.chan (some c))}):eT E W0 J U none Post n:=by
 intro M S d w sl t q fa ca h;obtain⟨Z,F⟩:=h.node;have p:0<d.size:=(bP.1 h.gs0).1;have O:stepG E.P (0==0) (G fa ca) w=_:=a h.rel;have g:=K3 (P:=E.P) (sl:=sl) (i:=0) h.gs0 O;rw[K4]at g;have v:=h.co.made (w':=w.alloc (.chan 1 #[] false 0 0 false)) r F h.gs0 h.q0 (VR.chan (some w.heap.size)) rfl ⟨rfl,rfl,rfl⟩;have s:(w.alloc (.chan 1 #[] false 0 0 false)).heap.size=w.heap.size+1:=Qd
 refine⟨_,_,_,_,g,?_⟩;rw[fY];refine V w.heap.size h.co.keep.1 (fa:=fa.finish (.chan (some w.heap.size))) (ca:=ca) ⟨v,by rw[bZ];exact h.tree,fun i m L A=>?_,fun x Q=>?_,⟨Z,upd_same _ _ _⟩,?_,h.q0,?_,fun c K=>?_,fun T R y=>?_⟩;·rw[upd_ne _ _ Qa]at A;exact h.halts i m L A
 .rw[upd_ne _ _ (show x≠0 by omega)];exact h.un x Q
 .exact bR (by simpa using p)
 .have H:Rel E n.sh n.bs n.B n.f n.cs n.l fa ca (w.alloc (.chan 1 #[] false 0 0 false)):=gG r h.rel (by rw[s];omega) fun b x I=>by have:=(D5 h.rel I).1;show (w.heap.push _)[x]?=_;rw[cX this,y1 this]
  exact H.fin (VR.chan _)
 .obtain rfl:=D3 K;refine⟨?_,h.co.keep.1,fun k j N e=>?_⟩;·show (w.heap.push _)[w.heap.size]?=_;simp
  .have:=(h.jlt k j N).2;omega
 .obtain⟨C,o⟩:=h.jlt T R y;exact⟨by simpa using C,by rw[s];omega⟩
def OQ{c:Nat} {jb:Job} (F:jb.ch=c) {nK:Node} (C:nK.stop=jb.stop)(V:nK.bs=jb.bs)(hH:Halts jb.stop)(hL:LG E jb.stop nK.f nK.cs nK.l)(Y:∀b x,nK.B b x->nK.sh b/\∃o,n.B o x/\n.sh o)(d:∀{fa:Frame} {ca:List Frame} {w:World},Rel E n.sh n.bs n.B n.f n.cs n.l fa ca w->∃g N L,stepG E.P true (G fa ca) w=.spawn (G (fa.finish undef) ca) g w #[]/\g.status=.running/\(∀w,stepG E.P false g w=.go (G N L) w #[])/\Rel E nK.sh nK.bs nK.B nK.f nK.cs nK.l N L w)(kk:∀K,0<K->J K=none->KGo E W0 (upd J K (some jb)) (fun x=>U x∨x=K) none Post {n with f:=n.f.finish undef}):eT E W0 J U (some c) Post n:=by
 intro M S a w sl t q fa ca h;obtain⟨s0,W⟩:=h.node;have s:0<a.size:=(bP.1 h.gs0).1;obtain⟨g,N,L,hs,R,T,hR⟩:=d h.rel;obtain⟨z,p2,p3⟩:=h.pend c rfl;have Z:stepG E.P (0==0) (G fa ca) w=_:=hs;have v:=runT_crowd_spawn (P:=E.P) (sl:=sl) (i:=0) h.gs0 Z;rw[K4]at v;have y:J a.size=none:=by cases e:J a.size with|none=>rfl|some j=>exact absurd (h.jlt _ j e).1 (O0 _)
 have O:=h.co.spawn W h.gs0 h.q0 y V C (by rw[F];exact z) (fun k j H=>by rw[F];exact p3 k j H) (by rw[F];exact p2) R T hR Y (fn:=(G fa ca).frame.fn) (fn':=g.frame.fn) (pos:=(G fa ca).frame.place);have Q:M a.size=none:=by cases e:M a.size with
  |none=>rfl|some m=>obtain⟨_,_,_,u,_⟩:=h.co.live _ m e;exact absurd (bP.1 u).1 (O0 _)
 have aA:S a.size=none:=by cases e:S a.size with|none=>rfl|some p=>obtain⟨j,H⟩:=h.co.job a.size s (.inr (by rw[e];simp));rw[y]at H;cases H
 have r:a.size≠0:=Qa
 refine⟨_,_,_,_,v,kk a.size s y (fa:=fa.finish undef) (ca:=ca) ⟨O,?_,fun i m hi I=>?_,fun x hx=>?_,⟨s0,?_⟩,?_,?_,h.rel.fin undefR,(by intro c F;cases F),fun k' j' A=>?_⟩⟩;·rw[kX _ r,bZ];have:=h.tree.add hL (i:=a.size) (by rw[upd_ne _ _ r];exact Q) nK.sh nK.bs nK.B;rw[<-C]at this;exact this
 .rcases upd_some I with⟨rfl,rfl⟩|⟨_,I⟩;·rw[C];exact hH
  .rw[upd_ne _ _ Qa]at I;exact h.halts i m hi I
 .by_cases e:x=a.size;·subst e;rw[upd_same];simp
  .rw[upd_ne _ _ e,upd_ne _ _ Qa];simp only[e,Zyi];exact h.un x hx
 .rw[upd_ne _ _ (fun e=>r e.symm),upd_same]
 .rw[dZ,q' (by simpa using fun e=>r e.symm),bR s]
 .rw[upd_ne _ _ (fun e=>r e.symm)];exact h.q0
 .rcases upd_some A with⟨rfl,rfl⟩|⟨_,A⟩;·refine⟨Qd,?_⟩;rw[F];exact(bP.1 z).1
  .obtain⟨u,D⟩:=h.jlt k' j' A;exact⟨Qk,D⟩
def OT{a:Node} (o:∀{e:Frame} {d:List Frame} {w:World},Rel E n.sh n.bs n.B n.f n.cs n.l e d w->Rel E a.sh a.bs a.B a.f a.cs a.l e d w)(u:∀c x,a.B c x->∃b,n.B b x/\(n.sh b->a.sh c))(k:KGo E W0 J U Ch Post a):KGo E W0 J U Ch Post n:=by intro M S v w y t q e d h;obtain⟨s,j⟩:=h.node;exact k ⟨h.co.renode j h.gs0 h.q0 (o h.rel) u,by rw[bZ];exact h.tree,fun i m p g=>by rw[upd_ne _ _ Qa]at g;exact h.halts i m p g,fun x r=>by rw[upd_ne _ _ Qa];exact h.un x r,⟨a.stop,upd_same _ _ _⟩,h.gs0,h.q0,o h.rel,h.pend,h.jlt⟩
def OU{a:Node} (o:∀{e:Frame} {d:List Frame} {w:World},Rel E n.sh n.bs n.B n.f n.cs n.l e d w->Rel E a.sh a.bs a.B a.f a.cs a.l e d w)(u:∀c x,a.B c x->∃b,n.B b x/\(n.sh b->a.sh c))(k:eT E W0 J U Ch Post a):eT E W0 J U Ch Post n:=by intro M S v w y t q e d h;obtain⟨s,j⟩:=h.node;exact k ⟨h.co.renode j h.gs0 h.q0 (o h.rel) u,by rw[bZ];exact h.tree,fun i m p g=>by rw[upd_ne _ _ Qa]at g;exact h.halts i m p g,fun x r=>by rw[upd_ne _ _ Qa];exact h.un x r,⟨a.stop,upd_same _ _ _⟩,h.gs0,h.q0,o h.rel,h.pend,h.jlt⟩
def OW{w:World} {d:Array Goroutine} {X:Option (Nat×Nat)} {t:Trace} {q:Nat->Nat} {fa:Frame} {ca:List Frame} (o:d[0]?=some (G fa ca))(u:Leavers E.P t d q)(v:Past (fun _=>False) w.heap.size t)(z:Rel E n.sh n.bs n.B n.f n.cs n.l fa ca w)(D:∀b x,n.B b x->n.sh b)(k:KGo E w (fun _=>none) (fun _=>False) none Post n):Fin E.P Post d w X t:=by
 have F:0<d.size:=(bP.1 o).1;refine k (M:=upd (fun _=>none) 0 (some n)) (S:=fun _=>none) (q:=upd q 0 0) (fa:=fa) (ca:=ca) ⟨⟨fun i m h=>?_,fun i g h s H=>?_,fun i h=>?_,by rw[upd_same];simp,fun i j m Z b c x I h r A C=>?_,⟨v.clean,v.seen,fun i a y s j m r=>?_,fun i a y s=>?_⟩,(by intro k j m r;cases r),(by intro k j p r;cases r),fun k K s=>?_,(by intro k V j T r;cases r),(by intro k j r;cases r),(by intro k p L;cases L),(by intro c Y O;cases O),(by intro k j m K r;cases r),fun i m b x h A N=>?_,⟨r3 _,fun _ _=>rfl⟩,⟨rfl,rfl,rfl⟩⟩,?_,fun i m h s=>?_,fun x N=>?_,⟨n.stop,upd_same _ _ _⟩,o,upd_same _ _ _,z,(by intro c C;cases C),(by intro k j r;cases r)⟩
 .rcases upd_some h with⟨rfl,rfl⟩|⟨_,h⟩;·exact⟨fa,ca,G fa ca,o,.inl ⟨upd_same _ _ _,rfl⟩,z⟩
  .cases h
 .rw[upd_ne _ _ Qa];exact u.old i g h H
 .by_cases e:i=0;·subst e;exact v.hears
  .rcases h with h|h;·rw[upd_ne _ _ e]at h;exact absurd rfl h
   .exact u.above i h
 .rcases upd_some h with⟨Q,_⟩|⟨_,h⟩
  .rcases upd_some r with⟨R,_⟩|⟨_,r⟩;·omega
   .cases r
  .cases h
 .rcases upd_some r with⟨rfl,rfl⟩|⟨_,r⟩
  .rcases v.known i a y s with x|x;·exact .inl x
   .exact x.1.elim
  .cases r
 .rcases v.known i a y s with x|x;·exact .inl x
  .exact x.1.elim
 .rw[upd_ne _ _ Qa]at s;rcases s with x|x<;>exact absurd rfl x
 .rcases upd_some h with⟨rfl,rfl⟩|⟨_,h⟩;·exact D b x A
  .cases h
 .rw[bZ,uP _ _ _ rfl];exact W.empty
 .rw[upd_ne _ _ Qa]at s;cases s
 .rw[upd_ne _ _ Qa];simp
def OX(k:∀{w:World} {b:Array Goroutine} {sl:Option (Nat×Nat)} {t:Trace} {q:Nat->Nat} {o:Frame} {d:List Frame},b[0]?=some (G o d)->Leavers E.P t b q->Past (fun _=>False) w.heap.size t->Rel E n.sh n.bs n.B n.f n.cs n.l o d w->W0.heap.size<=w.heap.size->(∀x,x<W0.heap.size->w.heap[x]?=W0.heap[x]?)->w.os=W0.os/\w.output=W0.output/\w.tape=W0.tape->mX E.P Post b w sl t 0)(O:∀x,0<x->¬U x):eT E W0 J U Ch Post n:=by
 intro M S b w sl t q o d h;obtain⟨V,N⟩:=h.node;have C:∀i,0<i->M i=none/\S i=none:=by
  intro i s;have:=fun y=>O i s ((h.un i s).2 y);constructor;·cases e:M i with
   |none=>rfl|some _=>exact absurd (.inl (by rw[e];simp)) this
  .cases e:S i with|none=>rfl|some _=>exact absurd (.inr (by rw[e];simp)) this
 have v:∀i a,touchAt t i=some a->a.loc.isMemory=true->Knows t 0 i:=by
  intro i a F I;rcases h.co.tr.hand i a F I with x|⟨k,m,c,r⟩|⟨k,p,c,r⟩;·exact x
  .by_cases e:k=0;·subst e;exact r
   .rw[(C k Qa).1]at c;cases c
  .have:=(h.co.excl k p c).2;rw[(C k this).2]at c;cases c
 refine k h.gs0 ⟨fun i g s H=>h.co.old i g s (C i s).1 H,fun j R=>h.co.deaf j (.inr R)⟩ ⟨h.co.tr.clean,fun i a F I=>.inl (v i a F I),fun i g H K Q=>?_,h.co.deaf 0 (.inl (by rw[N];simp)),h.co.tr.seen⟩ h.rel h.co.keep.1 h.co.keep.2 h.co.same;obtain⟨x,T,L,_⟩:=Q;obtain⟨p,z,c,r,A⟩:=v i x T L;refine⟨p,by simp[Trace.g?,c,r],?_⟩;rcases A with rfl|A
 .exfalso;have:z.g=g:=by simpa [Trace.g?,c] using H
  exact K (this.symm.trans r)
 .exact A
end
end Go.Twin
namespace Go.Twin
open Go.Conc
section
variable {E:Env} {Stop:Frame->List Frame->World->Prop}
def LG.re(b:Halts Stop) {f:Frame} {cs:List Frame} {l:World} (h:LG E Stop f cs l)(t:Nat->Question->Nat)(d:Nat):LG E Stop f cs (l.re t d):=by cases h with|stop f cs l h=>exact .stop _ _ _ (b.tape _ _ _ t d h)|step f cs l hc hg hs=>exact .step _ _ _ hc (fun g c=>hg g c) fun g c=>hs g c
variable {b:Frame} {a:Act} {k:List Item} {cs:List Frame} {l l':World}
def fA(e:Halts Stop) {f g:Frame} {c:List Frame} (j:f.mode=.run->Chk E f)(h:∀w,stepG E.P true (G f cs) w=.go (G g c) w #[])(k:LG E Stop g c l):LG E Stop f cs l:=LG.one j (W:=fun t d=>l.re t d) (es:=fun _ _=>#[]) (fun t d=>h _) fun t d=>k.re e t d
def cO(c:Halts Stop) {x y:Code} (h:LG E Stop (b.at a (.code x::.code y::k)) cs l):LG E Stop (b.at a (.code (.seq x y)::k)) cs l:=fA c (fun _=>trivial) (fun w=>stepG_seq) h
def cT(e:Halts Stop) {c:Nat} {d:Array Oper} (h:LG E Stop (b.at a (.inRegion d (List.range d.size)::k)) cs l):LG E Stop (b.at a (.code (.region c d false)::k)) cs l:=fA e (fun _=>trivial) (fun w=>stepG_region) h
def cU(d:Halts Stop) {c:Array Oper} (h:LG E Stop (b.at a k) cs l):LG E Stop (b.at a (.inRegion c []::k)) cs l:=fA d (fun _=>trivial) (fun w=>stepG_region_end) h
def uQ(d:Halts Stop) {c:Operand} {x y:Code} {t:Bool} (g:E.operand c=true)(h:a.eval c=.bool t)(f:LG E Stop (b.at a (.code (if t then x else y)::k)) cs l):LG E Stop (b.at a (.code (.cond c x y)::k)) cs l:=fA d (fun _=>g) (fun w=>stepG_cond h) f
def yH(c:Halts Stop) (h:LG E Stop (b.at a k) cs l):LG E Stop (b.at a (.code .skip::k)) cs l:=fA c (fun _=>trivial) (fun w=>stepG_skip) h
def OY(c:Halts Stop) (h:LG E Stop {b.at a (.code .ret::k)with mode:=.returning} cs l):LG E Stop (b.at a (.code .ret::k)) cs l:=fA c (fun _=>trivial) (fun w=>stepG_ret') h
variable {ops:Array Oper} {i:Nat} {rest:List Nat} {o:Oper}
def eS{g:FuncId} {args:Array Value} (e:Halts Stop)(j:ops[i]?=some o)(n:Region.wanted o (yielded ops a.tmps)=true)(m:b.kind≠.early)(f:E.op o.op=true)(p:∀w,(execOp a.eval o).run E.P w=.ok (.enter g args) w) (h:LG E Stop (Frame.enter E.P g args .normal) (b.at a (.inRegion ops (i::rest)::k)::cs) l):LG E Stop (b.at a (.inRegion ops (i::rest)::k)) cs l:=LG.one (W:=fun t d=>l.re t d) (fun _ r c=>by rw[j]at c;cases c;exact f) (fun t d=>stepG_enter j n m (p _)) fun t d=>h.re e t d
def OZ{fn:Func} {f:List Item} {c:Frame} {v:Value} (d:Halts Stop)(m:b.kind=.normal)(e:a.defers=[])(n:E.P.funcs[b.fn]?=some fn)(p:∀w,(results fn a.tmps).run E.P w=.ok v w)(g:∀w,(results fn a.tmps).events E.P w #[]=#[])(h:LG E Stop (c.finish v) cs l):LG E Stop {b.at a f with mode:=.returning} (c::cs) l:=fA d (fun j=>by cases j) (fun w=>stepG_leave m e n (p w) (g w)) h
end
section
variable {E:Env} {B:Blk}
def FR.at_eq {f a:Frame} (h:FR E B f a) (b:f.mode=.run) (j:f.roundOf=none):a=a.at ⟨a.tmps,a.defers⟩ a.todo:=by
 have c:a.mode=.run:=by
  rcases h.mode with⟨_,x⟩|⟨x,_⟩;·exact x
  .rw[b]at x;cases x
 have g:a.roundOf=none:=by
  rcases h.round with⟨_,x⟩|⟨l,d,x,_⟩;·exact x
  .rw[j]at x;cases x
 obtain⟨p,A,y,m,s,r,v⟩:=a;dsimp only at c g;subst c g;rfl
def FR.noEarly{f c:Frame} (h:FR E B f c):c.kind≠.early:=by rcases h.kind.2 with x|⟨_,x⟩<;>rw[x]<;>simp
def FR.region{f b:Frame} (h:FR E B f b) {a:Array Oper} {j:List Nat} {k:List Item} (m:f.todo=.inRegion a j::k):∃c,b.todo=.inRegion a j::c/\KR E B k c:=by have g:=h.todo;rw[m]at g;generalize b.todo=x at g |-;cases g with|cons y y' k c hy hs=>cases hy with|inRegion a j ho=>exact⟨c,rfl,hs⟩
def FR.oper {f d:Frame} (h:FR E B f d) (e:f.mode=.run) (p:f.roundOf=none) {ops:Array Oper} {i:Nat} {rest:List Nat} {k:List Item} (r:f.todo=.inRegion ops (i::rest)::k):∃c,d=d.at ⟨d.tmps,d.defers⟩ (.inRegion ops (i::rest)::c)/\KR E B k c:=by obtain⟨c,j,m⟩:=h.region r;have g:=h.at_eq e p;rw[j]at g;exact⟨c,g,m⟩
end
def bot(P:Program):Frame:={(default:Frame)with fn:=P.funcs.size,defers:=[],mode:=.panicking [goexitEntry]}
def cP:Nat->Value->Bool|0,_=>false|n+1,v=>match v with|.bool _|.int ..|.string _|.pointer none|.slice none ..|.nilFunc|.nilIface|.chan none=>true|.iface _ v=>cP n v|.agg xs=>xs.all (cP n)| .tuple xs => xs.size != 0 && xs.all (cP n)|_=>false
def sK:∀(n:Nat)(v:Value),cP n v=true->bH n v=true|0,v,h=>by simp[cP]at h|n+1,v,h=>by unfold cP at h;unfold bH;split at h<;>first|rfl|exact sK n _ h|(rw[bW]at h |-;exact fun x c=>sK n x (h x c))|(rw[aY,bW]at h;rw[bW];exact fun x c=>sK n x (h.2 x c))|cases h
section
variable {E:Env} {B:Blk}
def Zi:∀(n:Nat){v j:Value},cP n v=true->VR E B v j->v=j|0,v,j,h,_=>by simp[cP]at h|n+1,v,j,h,hv=>by cases hv with|iface t x x' hx=>have f:cP n x=true:=h;rw[Zi n f hx]|agg xs xs' hx hxs=>have f:xs.all (cP n)=true:=h;rw[bW]at f;congr 1;exact iU hx fun i g m=>Zi n (f _ (Array.getElem_mem g)) (hxs i _ _ (y1 g) (y1 m))|tuple xs xs' hx hxs=>have f : (xs.size != 0 && xs.all (cP n)) = true := h;rw[aY,bW]at f;congr 1;exact iU hx fun i g m=>Zi n (f.2 _ (Array.getElem_mem g)) (hxs i _ _ (y1 g) (y1 m))|ptr a a' ha=>cases h|slice a a' l c ha=>cases h|slice0 a hz=>rfl|func=>cases h|junk v hf hb=>simp[cP]at h|chan r=>rfl|_=>rfl
end
def fS(P:Program)(F c:Nat)(V:Value->Prop)(f:Frame)(cs:List Frame)(l:World):Prop:=cs=[ZH P]/\∃(a:Act)(x y:Operand)(d:Array Oper)(i:Nat)(o:Oper)(k:List Item),f=(base F).at a (.inRegion d [i]::k)/\a.defers=[]/\d[i]?=some o/\o.op=.send x y/\o.guard=none/\(∃n,x=.tmp n)/\(∃n,y=.tmp n)/\a.eval x=.chan (some c)/\V (a.eval y)/\cP 8 (a.eval y)=true/\(k=[]∨∃r,k=.code .ret::r)
section
variable {E:Env}
def uR(P:Program)(F g:Nat)(V:Value->Prop):Halts (fS P F g V):=⟨fun f cs l h=>by obtain⟨rfl,a,x,y,b,i,o,k,rfl,_⟩:=h;exact⟨Qd,fun c j=>by cases j⟩,fun f cs l t d h=>h⟩
def O2{P:Program} {F:Nat} {fn:Func} {d:Frame} (l:P.funcs[F]?=some fn)(f:fn.results=#[])(hF:d.fn=F)(n:d.mode=.returning)(e:d.defers=[])(c:d.kind=.normal∨d.kind=.deferred):QuitsD P 2 0 (G d [bot P]):=by
 obtain⟨h,s,r,g,m,j,p⟩:=d;dsimp only at hF n e c;subst hF n e;refine sX (g':=G (bot P) []) rfl (fun w=>?_) ?_
 .rcases c with rfl|rfl;·simp[G,stepG,unwind,doReturn,results,l,f,seen,GStep.after,bot,goexitEntry,Frame.finish];rfl
  .simp[G,stepG,unwind,doReturn,results,l,f,seen,GStep.after,bot,goexitEntry]
 refine sX (g':={G (bot P) []with status:=.finished}) rfl (fun w=>?_) ⟨rfl,rfl⟩;simp[G,stepG,unwind,bot,goexitEntry,Frame.catches];rfl
def uS{F j:Nat} {V:Value->Prop} {fn:Func} (hf:E.P.funcs[F]?=some fn)(hr:fn.results=#[]):dG E ⟨j,V,[bot E.P],fS E.P F j V⟩:=by intro sh B f cs l d ca w s hR;obtain⟨rfl,a,x,y,ops,i,o,k,rfl,hd,Z,O,hg,⟨n,rfl⟩,⟨m,rfl⟩,hx,hV,A,hk⟩:=s;have s:=hR.st;cases s with
 |cons _ _ _ _ _ _ hs=>cases hs with|cons _ _ _ _ _ _ h=>cases h
 |last _ _ hF hrd=>
  obtain⟨K,e,H⟩:=hF.oper rfl rfl rfl;have T:=hF.tmps;have D:(a.tmps.getD n undef)=.chan (some j):=hx;have M:(d.tmps.getD n undef)=.chan (some j):=by
   have:=T.getD n (undefR (G:=E) (B:=B));have Q:VR E B (.chan (some j)) (d.tmps.getD n undef):=by rw[<-D];exact this
   generalize d.tmps.getD n undef=v at Q |-;cases Q;rfl
  have U:(d.tmps.getD m undef)=a.tmps.getD m undef:=(Zi 8 A (T.getD m (undefR (G:=E) (B:=B)))).symm;have N:d.defers=[]:=by
   have:=hF.defers;have R:DR B [] d.defers:=by rw[<-hd];exact this
   generalize d.defers=z at R |-;cases R;rfl
  have p:d.kind=.normal∨d.kind=.deferred:=hF.kind.2.imp id fun z=>z.2;have C:execOp (⟨d.tmps,d.defers⟩:Act).eval o=Pure.pure (.comm #[{chan:=(⟨d.tmps,d.defers⟩:Act).eval (.tmp n),send:=some ((⟨d.tmps,d.defers⟩:Act).eval (.tmp m)),zero:=.tuple #[]}] true .send):=by unfold execOp;rw[O]
  have I:∀w,(execOp (⟨d.tmps,d.defers⟩:Act).eval o).run E.P w=.ok (.comm #[scase j (a.eval (.tmp m)) (.tuple #[])] true .send) w:=by intro w;have W:(⟨d.tmps,d.defers⟩:Act).eval (.tmp n)=.chan (some j):=M;have e5:(⟨d.tmps,d.defers⟩:Act).eval (.tmp m)=a.eval (.tmp m):=U;rw[C,W,e5];rfl
  have L:∀w,(execOp (⟨d.tmps,d.defers⟩:Act).eval o).events E.P w #[]=#[]:=by intro w;rw[C];rfl
  have hw:Region.wanted o (yielded ops d.tmps)=true:=by unfold Region.wanted;rw[hg]
  have g:=stepG_comm (P:=E.P) (main:=false) (b:=d) (a:=⟨d.tmps,d.defers⟩) (k:=K) (cs:=[bot E.P]) (rest:=[]) Z hw hF.noEarly (I w);rw[Ix (L w),<-e]at g;refine⟨a.eval (.tmp m),.tuple #[],_,4,hV,sK 8 _ A,g,?_⟩;rw[e];have e6:Go.Conc.served (G (d.at ⟨d.tmps,d.defers⟩ (.inRegion ops [i]::K)) [bot E.P]) undef=G (d.at ((⟨d.tmps,d.defers⟩:Act).put o.dst undef) (.inRegion ops []::K)) [bot E.P]:=by have:=hW d ⟨d.tmps,d.defers⟩ (ops:=ops) (i:=i) (rest:=[]) (k:=K) undef;show G ((d.at ⟨d.tmps,d.defers⟩ (.inRegion ops [i]::K)).finish undef) [bot E.P]=_;rw[this,Z];rfl
  rw[e6];refine sX rfl (fun w=>stepG_region_end) ?_;have q:∀t,QuitsD E.P 2 0 (G { d.at ((⟨d.tmps,d.defers⟩:Act).put o.dst undef) t with mode:=.returning } [bot E.P]):=by
   intro t;refine O2 (F:=F) hf hr ?_ rfl ?_ p;·show d.fn=F;exact hF.fn.symm
   .show ((⟨d.tmps,d.defers⟩:Act).put o.dst undef).defers=[];cases o.dst<;>exact N
  rcases hk with rfl|⟨r,rfl⟩;·cases H;refine sX rfl (fun w=>stepG_end) ?_;exact q []
  .cases H with|cons y y' k k2 hy hs=>cases hy with|code c hc=>refine sX rfl (fun w=>stepG_ret') ?_;exact q _
end
section
variable {E:Env} {n:Node} {fa:Frame} {ca:List Frame} {w:World}
def O3{d:Array Oper} {i:Nat} {rest:List Nat} {o:Oper} {k:List Item} {x:Nat} {c:Nat} {t:Value} (z:n.f.mode=.run)(y:n.f.roundOf=none)(A:n.f.todo=.inRegion d (i::rest)::k)(s:d[i]?=some o)(p:o.guard=none)(D:n.f.tmps.getD x undef=.chan (some c))(q:∀(ρ:Operand->Value)(w:World),(execOp ρ o).run E.P w=.ok (.comm #[{chan:=ρ (.tmp x),send:=none,zero:=t}] true (.recv false)) w)(j:∀(ρ:Operand->Value)(w:World),(execOp ρ o).events E.P w #[]=#[])(u:Rel E n.sh n.bs n.B n.f n.cs n.l fa ca w):∃t,stepG E.P true (G fa ca) w=.comm (G fa ca) #[rcase c t] true (.recv false) w #[]:=by
 have hF:=u.st.head;obtain⟨F,e,r⟩:=hF.oper z y A;have m:(⟨fa.tmps,fa.defers⟩:Act).eval (.tmp x)=.chan (some c):=by have h:VR E n.B (n.f.tmps.getD x undef) (fa.tmps.getD x undef):=hF.tmps.getD x (undefR (G:=E) (B:=n.B));rw[D]at h;show fa.tmps.getD x undef=_;generalize fa.tmps.getD x undef=v at h |-;cases h;rfl
 have C:Region.wanted o (yielded d fa.tmps)=true:=by unfold Region.wanted;rw[p]
 have g:=stepG_comm (P:=E.P) (main:=true) (b:=fa) (a:=⟨fa.tmps,fa.defers⟩) (k:=F) (cs:=ca) (rest:=rest) s C hF.noEarly (q _ w);rw[Ix (j _ w),<-e,m]at g;exact⟨t,g⟩
def O4{d:Array Oper} {i:Nat} {rest:List Nat} {o:Oper} {k:List Item} (u:n.f.mode=.run)(v:n.f.roundOf=none)(x:n.f.todo=.inRegion d (i::rest)::k)(m:d[i]?=some o)(r:o.guard=none)(q:∀(a:Act) (w:World),(execOp a.eval o).run E.P w=.ok (.value (.chan (some w.heap.size))) (w.alloc (.chan 1 #[] false 0 0 false))) (g:∀(a:Act) (w:World),(execOp a.eval o).events E.P w #[]=#[])(t:Rel E n.sh n.bs n.B n.f n.cs n.l fa ca w):stepG E.P true (G fa ca) w=.go (G (fa.finish (.chan (some w.heap.size))) ca) (w.alloc (.chan 1 #[] false 0 0 false)) #[]:=by
 have hF:=t.st.head;obtain⟨h,e,s⟩:=hF.oper u v x;have y:Region.wanted o (yielded d fa.tmps)=true:=by unfold Region.wanted;rw[r]
 have c:=stepG_value (P:=E.P) (main:=true) (b:=fa) (a:=⟨fa.tmps,fa.defers⟩) (k:=h) (cs:=ca) (rest:=rest) m y hF.noEarly (q _ w);rw[Ix (g _ w)]at c;have j:=hW fa ⟨fa.tmps,fa.defers⟩ d i rest h (.chan (some w.heap.size));rw[m]at j;have p:fa.finish (.chan (some w.heap.size))=fa.at ((⟨fa.tmps,fa.defers⟩:Act).put o.dst (.chan (some w.heap.size))) (.inRegion d rest::h):=by rw[e];exact j
 rw[p,<-c,<-e]
def Blk.on(B:Blk)(X:Nat->Prop):Blk:=fun b x=>B b x/\X b
def idX(X:Nat->Prop):Blk:=fun b c=>b=c/\X b
def yI{X:Nat->Prop}:∀b c,idX X b c->b=c:=fun b c h=>h.1
def VR.on{S E:Env} (p:SubG S E E) {B:Blk} {X:Nat->Prop} {v A:Value} (h:VR E B v A):VR S (idX X) v v->VR E (B.on X) v A:=by induction h with
 |bool b=>exact fun _=>.bool b|int k n=>exact fun _=>.int k n|string s=>exact fun _=>.string s|nilPtr=>exact fun _=>.nilPtr|ptr a a' ha=>intro m;cases ha with|mk b b' o s hb=>cases m with|ptr _ _ h2=>cases h2 with|mk _ _ _ _ hx=>exact .ptr _ _ (.mk _ _ _ _ ⟨hb,hx.2⟩)
 |nilSlice l c=>exact fun _=>.nilSlice l c|slice a a' l c ha=>intro m;cases ha with|mk b b' o s hb=>cases m with
   |slice _ _ _ _ h2=>cases h2 with|mk _ _ _ _ hx=>exact .slice _ _ _ _ (.mk _ _ _ _ ⟨hb,hx.2⟩)
   |slice0 _ hz=>rw[p.s]at hz;cases hz
 |slice0 a hz=>rw[p.e]at hz;cases hz|func fn fn' xs xs' ys ys' hf hx hxs hy hys ih1 ih2=>intro m;cases m with|func _ _ _ _ _ _ h1 _ h2 _ h3=>refine .func _ _ _ _ _ _ ?_ hx (fun i u x g j=>ih1 i u x g j (h2 i u u g g)) hy fun i u x g j=>ih2 i u x g j (h3 i u u g g);cases hf with|func f hg=>exact .func f hg|yield a b hb=>cases h1 with|yield _ _ hl=>exact .yield _ _ ⟨hb,hl.2⟩
 |nilFunc=>exact fun _=>.nilFunc|iface t v A _ ih=>intro m;cases m with|iface _ _ _ h2=>exact .iface _ _ _ (ih h2)
 |nilIface=>exact fun _=>.nilIface|chan r=>exact fun _=>.chan r|junk v hf hv=>exact fun _=>.junk v hf hv|agg xs xs' hx hxs ih=>intro m;cases m with|agg _ _ _ h2=>exact .agg _ _ hx fun i u x g j=>ih i u x g j (h2 i u u g g)
 |tuple xs xs' hx hxs ih=>intro m;generalize y:Value.tuple xs=q at m;cases m with|tuple _ _ _ h2=>cases y;exact .tuple _ _ hx fun i u x g j=>ih i u x g j (h2 i u u g g)|junk _ _ _=>cases y;exact .tuple _ _ hx fun i u x g j=>(by simp at g)|_=>cases y
def AR.on{S E:Env} (c:SubG S E E) {B:Blk} {X:Nat->Prop} {e d:Array Value} (h:AR E B e d)(j:∀v∈e,VR S (idX X) v v):AR E (B.on X) e d:=⟨h.size,fun i v m g f=>(h.at_ i v m g f).on c (j v (bG g))⟩
def hE(S:Env)(X:Nat->Prop)(l:World):Prop:=∀b,X b->∃c T f,l.heap[b]?=some (.cells c T f)/\∀v∈c,VR S (idX X) v v
def Zu{S:Env} {X:Nat->Prop} {a:Array Value} (h:∀v∈a,VR S (idX X) v v):AR S (idX X) a a:=⟨rfl,fun i v g f c=>by rw[f]at c;cases c;exact h v (bG f)⟩
def O5{P:Program} {F:Nat} {fn:Func} {c:Code} (h:P.funcs[F]?=some fn)(g:fn.body=some c)(e:(fn.name== "runtime.NumGoroutine")=false)(d:Array Value)(w:World):stepG P false (born P { target:=.fn (.func F) d,args:=#[] }) w=.go (G ((baseD F).at ⟨d++Array.replicate (fn.ntmps-d.size) undef,[]⟩ [.code c]) [bot P]) w #[]:=by
 have f:¬fn.name= "runtime.NumGoroutine":=by simpa using e
 simp[f,born,stepG,unwind,callDeferred,invoke,callFunc,h,g,e,seen,GStep.after,G,Frame.enter,Frame.at,baseD,bot,program,Sem.run,Sem.runT,aB]
end
section
variable {E:Env} {n:Node} {fa:Frame} {ca:List Frame} {w:World}
def O6{S:Env} (y:SubG S E E)(N:∀g,E.dark g=false)(R:E.sh=true)(A:E.free=true)(O:∀g,E.glob g=false) {t:Array Oper} {i:Nat} {rest:List Nat} {o:Oper} {k:List Item} {x F:Nat} (L:E.dfr F=true) {fn:Func} {q:Code} {d:Array Value} {X:Nat->Prop} (hm:n.f.mode=.run)(hr:n.f.roundOf=none)(ht:n.f.todo=.inRegion t (i::rest)::k)(Y:t[i]?=some o)(C:o.guard=none)(hd:o.dst=none)(hx:n.f.tmps.getD x undef=.func (.func F) #[] d)(D:∀(ρ:Operand->Value)(r:Array Value)(w:World),ρ (.tmp x)=.func (.func F) #[] r->(execOp ρ o).run E.P w=.ok (.spawn {target:=.fn (.func F) r,args:=#[]}) w/\(execOp ρ o).events E.P w #[]=#[])(hf:E.P.funcs[F]?=some fn)(J:fn.body=some q)(H:(fn.name== "runtime.NumGoroutine")=false)(Q:aV q=true)(u:∀v∈d,VR S (idX X) v v)(hX:∀b,X b->n.sh b)(z:hE S X n.l)(W:Rel E n.sh n.bs n.B n.f n.cs n.l fa ca w):∃j U Z,stepG E.P true (G fa ca) w=.spawn (G (fa.finish undef) ca) j w #[]/\j.status=.running/\(∀w,stepG E.P false j w=.go (G U Z) w #[])/\Rel E X [bot E.P] (n.B.on X) ((base F).at ⟨d++Array.replicate (fn.ntmps-d.size) undef,[]⟩ [.code q]) [ZH E.P] n.l U Z w:=by
 have hF:=W.st.head;obtain⟨V,e,aA⟩:=hF.oper hm hr ht;have K:VR E n.B (n.f.tmps.getD x undef) (fa.tmps.getD x undef):=hF.tmps.getD x (undefR (G:=E) (B:=n.B));rw[hx]at K;have hw:Region.wanted o (yielded t fa.tmps)=true:=by unfold Region.wanted;rw[C]
 generalize hv:fa.tmps.getD x undef=v at K;cases K with|func fn1 fn2 xs xs' ys ys' hfn hxs1 hxs2 hys1 hys2=>cases hfn with|func _ hgood=>
   obtain rfl:xs'=#[]:=xH hxs1.symm;have hA:AR E n.B d ys':=⟨hys1,hys2⟩;obtain⟨r1,r2⟩:=D (⟨fa.tmps,fa.defers⟩:Act).eval ys' w hv;have I:=stepG_spawn (P:=E.P) (main:=true) (b:=fa) (a:=⟨fa.tmps,fa.defers⟩) (k:=V) (cs:=ca) (rest:=rest) Y hw hF.noEarly r1 rfl;rw[Ix r2]at I;have M:=hW fa ⟨fa.tmps,fa.defers⟩ t i rest V undef;rw[Y]at M;have e7:fa.finish undef=fa.at ((⟨fa.tmps,fa.defers⟩:Act).put o.dst undef) (.inRegion t rest::V):=by rw[e];exact M
   refine⟨_,_,_,?_,rfl,fun w=>O5 hf J H ys' w,⟨?_,?_,fun b J=>let ⟨_,_,_,m,_⟩:=z b J;(bP.1 m).1⟩⟩;·rw[e7,<-I,<-e]
   .refine .last _ _ ⟨rfl,?_,.cons _ _ _ _ (.code _ ⟨Q,fun h=>by rw[A]at h;cases h⟩) .nil,.nil,.inl ⟨rfl,rfl⟩,⟨rfl,.inr ⟨L,rfl⟩⟩,.inl ⟨rfl,rfl⟩⟩ rfl;show AR E (n.B.on X) (d++Array.replicate _ undef) (ys'++Array.replicate _ undef);rw[hys1];exact(hA.on y u).append (AR.replicate _ undefR)
   .obtain⟨w1,w2,w3,w4,w5,w6,w7,w8,w9,aB,aC⟩:=W.wr;refine⟨fun b p c' m s=>w1 b p c' m.1 s.1,fun b c p m s=>w2 b c p m.1 s.1,fun b p m=>w3 b p m.1,fun b p m s=>absurd m.2 s,fun b p m s=>?_,fun _ _ x=>x.elim,fun g C=>(by rw[O]at C;cases C),fun b p m=>w8 b p m.1,w9,fun hs=>(by rw[R]at hs;cases hs),fun g C=>(by rw[N]at C;cases C)⟩;have x1:=hX b s;obtain⟨c,T,fz,x3,x4⟩:=z b s;obtain⟨c1,c2,T',f',y1,y2,y3⟩:=w5 b p m.1 x1;rw[x3]at y1;cases y1;exact⟨c,c2,T,f',x3,y2,y3.on y x4⟩
end
section
variable {l:World} {t:Nat->Question->Nat} {d:Nat}
def fB(a:Addr):(l.re t d).cell? a=l.cell? a:=rfl
def fC(a:Addr):(l.re t d).frozen? a=l.frozen? a:=rfl
def fD(b:Nat):(l.re t d).shape? b=l.shape? b:=rfl
def dL:(l.re t d).heap.size=l.heap.size:=rfl
def HM:(l.re t d).heap=l.heap:=rfl
def fE(o:Obj):(l.re t d).alloc o=(l.alloc o).re t d:=rfl
def fP(a:Addr)(v:Value):(l.re t d).setCell a v=(l.setCell a v).re t d:=by unfold World.setCell World.re;rfl
end
section
variable {E:Env} {Stop:Frame->List Frame->World->Prop} {b:Frame} {a:Act} {k:List Item} {cs:List Frame} {l:World} {ops:Array Oper} {i:Nat} {rest:List Nat} {o:Oper}
def ZS(n:Halts Stop)(y:ops[i]?=some o)(q:Region.wanted o (yielded ops a.tmps)=true)(F:b.kind≠.early)(A:E.op o.op=true)(h:∀t d (K:Result Next->Prop),(∀v W,LG E Stop (b.at (a.put o.dst v) (.inRegion ops rest::k)) cs W->K (.ok (.value v) (W.re t d)))->(∀W,LG E Stop (b.at (a.put o.dst undef) (.inRegion ops rest::k)) cs W->K (.ok .skip (W.re t d)))->K ((execOp a.eval o).run E.P (l.re t d))):LG E Stop (b.at a (.inRegion ops (i::rest)::k)) cs l:=by
 have C:=fun t d=>h t d (fun r=>(∃v W,r=.ok (.value v) W/\LG E Stop (b.at (a.put o.dst v) (.inRegion ops rest::k)) cs W)∨∃W,r=.ok .skip W/\LG E Stop (b.at (a.put o.dst undef) (.inRegion ops rest::k)) cs W) (fun v W x=>.inl ⟨v,_,rfl,x.re n t d⟩) fun W x=>.inr ⟨_,rfl,x.re n t d⟩;have c:∀t d,∃p e s,stepG E.P true (G (b.at a (.inRegion ops (i::rest)::k)) cs) (l.re t d)=.go (G p cs) e s/\LG E Stop p cs e:=by
  intro t d;rcases C t d with⟨v,W,f,j⟩|⟨W,f,j⟩;·exact⟨_,_,_,stepG_value y q F f,j⟩
  .exact⟨_,_,_,stepG_none y q F f,j⟩
 refine .step _ _ _ (fun _ O m=>by rw[y]at m;cases m;exact A) (fun t d=>?_) fun t d p H e s g=>?_;·obtain⟨p,e,s,f,_⟩:=c t d;exact⟨_,_,_,_,f⟩
 .obtain⟨L,N,I,f,j⟩:=c t d;rw[f]at g;simp only[cE,G,hA,bQ]at g;obtain⟨⟨rfl,rfl⟩,rfl,_⟩:=g;exact j
def yJ(v:E.sh=true)(s:∀g,E.glob g=false)(r:∀g,E.dark g=false) {X:Nat->Prop} (y:hE E X l)(p:E.P.globals.size<=l.heap.size):WR E ⟨fun _=>False,fun _=>True⟩ (idX X) l l:=⟨fun b j C f m=>by rw[<-f.1,m.1],fun b c j f m=>by rw[f.1,m.1],fun b j h=>by obtain⟨rfl,h⟩:=h;obtain⟨c,T,x,f,_⟩:=y b h;have:=(bP.1 f).1;exact⟨this,this⟩,fun b j h _=>by obtain⟨rfl,h⟩:=h;obtain⟨c,T,x,f,m⟩:=y b h;exact⟨_,_,f,f,.cells c c T x (Zu m)⟩,fun b j _ h=>h.elim,fun i q _=>rfl,fun g h=>(by rw[s]at h;cases h),fun b j h=>by rw[h.1],⟨p,p⟩,fun A=>(by rw[v]at A;cases A),fun g p=>(by rw[r]at p;cases p)⟩
end
section
variable {E:Env} {Stop:Frame->List Frame->World->Prop} {b:Frame} {a:Act} {k:List Item} {cs:List Frame} {l:World} {ops:Array Oper}
def HN{P:Program} {c:Nat} (w:World):stepG P true (G (b.at a (.code (.region c ops true)::k)) cs) w=.go (G (b.at a (.inRegion ops (Region.schedule (P.follows .mixedOrders) ops (w.tape w.drawn (.order b.fn c)))::k)) cs) {w with drawn:=w.drawn+1} #[]:=by simp[G,stepG,stepG.exec,Frame.at,choose,Sem.run,Question.forced,Question.cut]
def O7(e:Halts Stop) {g:Nat} (h:∀n,LG E Stop (b.at a (.inRegion ops (Region.schedule (E.P.follows .mixedOrders) ops n)::k)) cs l):LG E Stop (b.at a (.code (.region g ops true)::k)) cs l:=by refine .step _ _ _ (fun _=>trivial) (fun t d=>⟨_,_,_,_,HN _⟩) fun t d m f i j c=>?_;rw[HN]at c;simp only[cE,G,hA,bQ]at c;obtain⟨⟨rfl,rfl⟩,rfl,_⟩:=c;exact(h _).re e t (d+1)
def F3(m:Region.Mode):∀(f t:Nat)(c:Array Bool)(g:List Nat),Region.linearise.go m ops f t c g=g.reverse++Region.linearise.go m ops f t c []
 |0,t,c,g=>by simp[Region.linearise.go]|f+1,t,c,g=>by
  unfold Region.linearise.go;dsimp only;split;·rename_i i h;rw[F3 m f _ _ (i::g),F3 m f _ _ [i]];simp
  .simp
def ready(ops:Array Oper)(c:Array Bool):List Nat:=(List.range ops.size).filter fun i=>!c.getD i true&&((ops[i]?).map (·.after.all fun e=>!Region.binds .any e||c.getD e.on false)).getD false
def O8(f t:Nat) (c:Array Bool):Region.linearise.go .any ops (f+1) t c []=match (ready ops c)[t%(ready ops c).length]? with|some i=>Region.linearise.go .any ops f (t / (ready ops c).length) (c.setIfInBounds i true) [i]|none=>[]:=rfl
def go_cases(f t:Nat)(c:Array Bool):Region.linearise.go .any ops (f+1) t c []=[]/\ready ops c=[]∨∃i g,i∈ready ops c/\Region.linearise.go .any ops (f+1) t c []=i::Region.linearise.go .any ops f g (c.setIfInBounds i true) []:=by rw[O8];generalize ready ops c=L;cases h:L[t%L.length]? with
 |none=>refine .inl ⟨rfl,?_⟩;cases L with
  |nil=>rfl|cons x xs=>rw[iG]at h;have:=Nat.mod_lt t (show 0<(x::xs).length by simp);omega
 |some i=>refine .inr ⟨i,t / L.length,e7 h,?_⟩;dsimp only;rw[F3];rfl
def O9{p q:Nat->Bool} {x:Nat} {L:List Nat} (c:∀j,q j=true->p j=true)(d:x∈L)(e:p x=true)(h:q x=false):L.countP q<L.countP p:=by induction L with
 |nil=>cases d|cons y L ih=>
  have g:L.countP q<=L.countP p:=List.countP_mono_left fun j _=>c j;rw[tF,tF];rcases ZAW.1 d with rfl|d;·simp[e,h];omega
  .have:=ih d;have:(if q y=true then 1 else 0)<=(if p y=true then 1 else 0):=by
    by_cases f:q y=true;·simp[f,c y f]
    .simp[f]
   omega
def O'(z:E.P.follows .mixedOrders=true)(I:Array Bool->Act->World->Prop)(g:∀c a l i d,I c a l->i∈ready ops c->(ready ops (c.setIfInBounds i true)=[]->d=[])->(∀o q,I (c.setIfInBounds i true) o q->LG E Stop (b.at o (.inRegion ops d::k)) cs q)->LG E Stop (b.at a (.inRegion ops (i::d)::k)) cs l)(u:∀c a l,I c a l->ready ops c≠[])(m:∀c a l,I c a l->0<(List.range ops.size).countP fun j=>!c.getD j true)(n:Nat)(w:I (Array.replicate ops.size false) a l):LG E Stop (b.at a (.inRegion ops (Region.schedule (E.P.follows .mixedOrders) ops n)::k)) cs l:=by
 have e:Region.schedule (E.P.follows .mixedOrders) ops n=Region.linearise.go .any ops ops.size n (Array.replicate ops.size false) []:=by rw[z];rfl
 rw[e];have y:∀(f n:Nat)(c:Array Bool)(a:Act)(l:World),((List.range ops.size).countP fun j=>!c.getD j true)<=f->I c a l->LG E Stop (b.at a (.inRegion ops (Region.linearise.go .any ops f n c [])::k)) cs l:=by intro f;induction f with|zero=>intro n c a l L r;have:=m c a l r;omega|succ f ih=>
   intro n c a l L r;rcases go_cases (ops:=ops) f n c with⟨_,s⟩|⟨i,H,A,s⟩;·exact absurd s (u c a l r)
   .rw[s];refine g c a l i _ r A (fun Q=>?_) fun o q v=>ih H _ o q ?_ v;·cases f with|zero=>rfl|succ f=>
      rcases go_cases (ops:=ops) f H (c.setIfInBounds i true)with⟨p,_⟩|⟨j,T,p,_⟩;·exact p
      .rw[Q]at p;cases p
    .
     have F:i∈List.range ops.size/\c.getD i true=false:=by have:=cD.1 A;refine⟨this.1,?_⟩;have C:=this.2;simp only[aY,gN]at C;exact C.1
     have O:(List.range ops.size).countP (fun j=>!(c.setIfInBounds i true).getD j true)<(List.range ops.size).countP fun j=>!c.getD j true:=by
      refine O9 (x:=i) (fun j N=>?_) F.1 (by simp[F.2]) ?_
      .revert N;rw[fO,fO,bF];split
       .split;·simp
        .rename_i K R;subst K;rw[eK Qa];simp
       .exact id
      .rw[fO,bF];split;·split<;>simp
       .rename_i h;exact absurd rfl h
     omega
 refine y ops.size n _ a l ?_ w;exact l3 (List.countP_le_length) Qd
end
section
variable {E1 S E2:Env} {B:Blk} {X:Nat->Prop}
def VR.on'(p:SubG S E1 E2)(C:E2.junk=true) {v A:Value} (h:VR E1 B v A):VR S (idX X) v v->VR E2 (B.on X) v A:=by induction h with
 |bool b=>exact fun _=>.bool b|int k n=>exact fun _=>.int k n|string s=>exact fun _=>.string s|nilPtr=>exact fun _=>.nilPtr|ptr a a' ha=>intro m;cases ha with|mk b b' o s hb=>cases m with|ptr _ _ h2=>cases h2 with|mk _ _ _ _ hx=>exact .ptr _ _ (.mk _ _ _ _ ⟨hb,hx.2⟩)
 |nilSlice l c=>exact fun _=>.nilSlice l c|slice a a' l c ha=>intro m;cases ha with|mk b b' o s hb=>cases m with
   |slice _ _ _ _ h2=>cases h2 with|mk _ _ _ _ hx=>exact .slice _ _ _ _ (.mk _ _ _ _ ⟨hb,hx.2⟩)
   |slice0 _ hz=>rw[p.s]at hz;cases hz
 |slice0 a hz=>rw[p.e]at hz;cases hz|func fn fn' xs xs' ys ys' hf hx hxs hy hys ih1 ih2=>intro m;cases m with|func _ _ _ _ _ _ h1 _ h2 _ h3=>refine .func _ _ _ _ _ _ ?_ hx (fun i u x g j=>ih1 i u x g j (h2 i u u g g)) hy fun i u x g j=>ih2 i u x g j (h3 i u u g g);cases hf with
   |func f hg=>cases h1 with|func _ hg2=>exact .func f (p.good f hg2)
   |yield a b hb=>cases h1 with|yield _ _ hl=>exact .yield _ _ ⟨hb,hl.2⟩
 |nilFunc=>exact fun _=>.nilFunc|iface t v A _ ih=>intro m;cases m with|iface _ _ _ h2=>exact .iface _ _ _ (ih h2)
 |nilIface=>exact fun _=>.nilIface|chan r=>exact fun _=>.chan r|junk v hf hv=>exact fun _=>.junk v C hv|agg xs xs' hx hxs ih=>intro m;cases m with|agg _ _ _ h2=>exact .agg _ _ hx fun i u x g j=>ih i u x g j (h2 i u u g g)
 |tuple xs xs' hx hxs ih=>intro m;generalize y:Value.tuple xs=q at m;cases m with|tuple _ _ _ h2=>cases y;exact .tuple _ _ hx fun i u x g j=>ih i u x g j (h2 i u u g g)|junk _ _ _=>cases y;exact .tuple _ _ hx fun i u x g j=>(by simp at g)|_=>cases y
def AR.on'(c:SubG S E1 E2)(j:E2.junk=true) {b a:Array Value} (h:AR E1 B b a)(m:∀v∈b,VR S (idX X) v v):AR E2 (B.on X) b a:=⟨h.size,fun i v p g f=>(h.at_ i v p g f).on' c j (m v (bG g))⟩
def EV(S:Env)(X:Nat->Prop) {v:Value} (a:bare v=true):∃u,VR S (idX X) u u/\(VR S (idX X) v v->u=v)/\∀(E1 E2:Env)(B:Blk)(c:Value),SubG S E1 E2->E2.junk=true->VR E1 B v c->VR E2 (B.on X) u c:=by
 by_cases g:VR S (idX X) v v;·exact⟨v,g,fun _=>rfl,fun E1 E2 B c j f h=>VR.on' j f h g⟩
 .exact⟨.tuple #[],undefR,fun h=>absurd h g,fun E1 E2 B c j f h=>.junk c f (by rw[<-h.bare];exact a)⟩
def RR(S:Env)(X:Nat->Prop):∀(v:Value),∃u,VR S (idX X) u u/\(VR S (idX X) v v->u=v)/\∀(E1 E2:Env)(B:Blk)(f:Value),SubG S E1 E2->E2.junk=true->VR E1 B v f->VR E2 (B.on X) u f
 |.iface t v=>by
  obtain⟨u,j,g,L⟩:=RR S X v;refine⟨.iface t u,.iface _ _ _ j,fun h=>?_,fun E1 E2 B f r p h=>?_⟩;·cases h with|iface _ _ _ h4=>rw[g h4]
  .cases h with|iface _ _ f h4=>exact .iface _ _ _ (L E1 E2 B f r p h4)
 |.agg xs=>by
  have C:∀i:_root_.Fin xs.size,∃u,VR S (idX X) u u/\(VR S (idX X) xs[i] xs[i]->u=xs[i])/\∀(E1 E2:Env)(B:Blk)(f:Value),SubG S E1 E2->E2.junk=true->VR E1 B xs[i] f->VR E2 (B.on X) u f:=fun i=>RR S X xs[i];have y:(Array.ofFn fun i=>(C i).choose).size=xs.size:=Qd
  have m:∀(i:Nat)(u:Value),(Array.ofFn fun i=>(C i).choose)[i]?=some u->∃v,xs[i]?=some v/\VR S (idX X) u u/\(VR S (idX X) v v->u=v)/\∀(E1 E2:Env)(B:Blk)(f:Value),SubG S E1 E2->E2.junk=true->VR E1 B v f->VR E2 (B.on X) u f:=by
   intro i u A;rw[yB]at A;split at A;·rename_i I;cases A;exact⟨xs[i],y1 I,(C ⟨i,I⟩).choose_spec⟩
   .cases A
  refine⟨.agg (Array.ofFn fun i=>(C i).choose),.agg _ _ rfl fun i u N j g=>?_,fun h=>?_,fun E1 E2 B f r p h=>?_⟩;·rw[j]at g;cases g;obtain⟨v,x,F,_⟩:=m i u j;exact F
  .cases h with|agg _ _ _ h4=>congr 1;refine iU y fun i j g=>?_;obtain⟨v,x,F,H,_⟩:=m i _ (y1 j);rw[y1 g]at x;cases x;exact H (h4 i _ _ (y1 g) (y1 g))
  .cases h with|agg _ xs' h4 h5=>refine .agg _ _ (y.trans h4) fun i u f j g=>?_;obtain⟨v,x,F,H,K⟩:=m i u j;exact K E1 E2 B f r p (h5 i v f x g)
 |.bool b=>⟨.bool b,.bool b,fun _=>rfl,fun E1 E2 B f r p h=>by cases h;exact .bool b⟩|.int k n=>⟨.int k n,.int k n,fun _=>rfl,fun E1 E2 B f r p h=>by cases h;exact .int k n⟩|.string s=>⟨.string s,.string s,fun _=>rfl,fun E1 E2 B f r p h=>by cases h;exact .string s⟩|.nilIface=>⟨.nilIface,.nilIface,fun _=>rfl,fun E1 E2 B f r p h=>by cases h;exact .nilIface⟩|.float a b=>EV S X rfl|.complex a b c=>EV S X rfl|.pointer a=>EV S X rfl|.slice a b c=>EV S X rfl|.map a=>EV S X rfl|.chan a=>EV S X rfl|.func a b c=>EV S X rfl|.nilFunc=>EV S X rfl|.tuple a=>EV S X rfl termination_by v=>SizeOf.sizeOf v decreasing_by
 .simp_wf;omega
 .have:=yC xs i.1 i.2;simp_wf;have e:SizeOf.sizeOf xs[i]=SizeOf.sizeOf xs[i.1]:=rfl;omega
noncomputable def san(S:Env)(X:Nat->Prop)(v:Value):Value:=(RR S X v).choose
def yK(S:Env) (X:Nat->Prop) (v:Value):VR S (idX X) (san S X v) (san S X v):=(RR S X v).choose_spec.1
def PA{S:Env} {X:Nat->Prop} {v:Value} (h:VR S (idX X) v v):san S X v=v:=(RR S X v).choose_spec.2.1 h
def yL(c:SubG S E1 E2) (g:E2.junk=true) {v f:Value} (h:VR E1 B v f):VR E2 (B.on X) (san S X v) f:=(RR S X v).choose_spec.2.2 E1 E2 B f c g h
noncomputable def yM(S:Env)(X:Nat->Prop)(o:Obj):Obj:=match o with|.cells c T _=>.cells (c.map (san S X)) T (0,c.size+1)|o=>o
open Classical in noncomputable def sanW(S:Env)(X Y:Nat->Prop)(l:World):World:={l with heap:=l.heap.mapIdx fun b o=>if Y b then yM S X o else o}
section
variable {S:Env} {X Y:Nat->Prop} {l:World}
def fU:(sanW S X Y l).heap.size=l.heap.size:=by simp[sanW]
def U0{b:Nat} (h:¬Y b):(sanW S X Y l).heap[b]?=l.heap[b]?:=by simp only[sanW,l4];cases l.heap[b]? with|none=>rfl|some o=>simp[h]
def U1{b:Nat} (h:Y b) {c:Array Value} {T:TypeId} {f:Nat×Nat} (g:l.heap[b]?=some (.cells c T f)):(sanW S X Y l).heap[b]?=some (.cells (c.map (san S X)) T (0,(c.map (san S X)).size+1)):=by simp only[sanW,l4,g];simp[h,yM]
def PC{b:Nat} (c:l.heap[b]?=some (.deferred none)):(sanW S X Y l).heap[b]?=some (.deferred none):=by simp only[sanW,l4,c];simp only[hD];split<;>rfl
def lG{a:Addr} {v:Value} (b:l.cell? a=some v)(j:VR S (idX X) v v):(sanW S X Y l).cell? a=some v:=by
 by_cases h:Y a.block;·cases g:l.heap[a.block]? with
  |none=>simp[World.cell?,g]at b|some o=>cases o with
   |cells c T f=>
    simp only[World.cell?,g]at b;simp only[World.cell?,U1 h g];split at b;·cases b
    .rename_i m;rw[q' m,aJ,b,hD,PA j]|_=>simp[World.cell?,g]at b
 .have:=b;unfold World.cell? at this |-;rw[U0 h];exact this
end
def Z7(B:Blk)(l:World)(b:Nat):Prop:=(∃g,B b g)/\∃c T f,l.heap[b]?=some (.cells c T f)
def PE(V:E2.P=E1.P)(H:SubG S E1 E2)(e:E2.junk=true)(N:E2.sh=true)(L:∀g,E2.glob g=false)(K:∀g,E2.dark g=false) {d:Nat->Prop} {l w:World} (h:WR E1 ⟨d,fun _=>False⟩ B l w):WR E2 ⟨Z7 B l,fun _=>False⟩ (B.on (Z7 B l)) (sanW S (Z7 B l) (Z7 B l) l) w/\hE S (Z7 B l) (sanW S (Z7 B l) (Z7 B l) l):=by
 refine⟨⟨fun b j r x y=>h.fn _ _ _ x.1 y.1,fun b c j x y=>h.inj _ _ _ x.1 y.1,fun b j x=>⟨by rw[fU];exact(h.dom _ _ x.1).1,(h.dom _ _ x.1).2⟩,fun b j x p=>absurd x.2 p,fun b j x _=>?_,fun _ _ x=>x.elim,fun g F=>(by rw[L]at F;cases F),fun b j x=>by rw[V];exact h.low _ _ x.1,by rw[V,fU];exact h.gsz,fun p=>(by rw[N]at p;cases p),fun g F=>(by rw[K]at F;cases F)⟩,fun b Z=>?_⟩
 .obtain⟨_,c,T,f,C⟩:=id x.2;have R:∃r I,w.heap[j]?=some (.cells r T I)/\AR E1 B c r:=by
   by_cases p:d b;·obtain⟨t,q,n,z,s,A,m⟩:=h.shr b j x.1 p;rw[C]at s;cases s;exact⟨_,_,A,m⟩
   .obtain⟨o,D,s,A,m⟩:=h.obj b j x.1 p;rw[C]at s;cases s;cases m with|cells c r T f m=>exact⟨_,_,A,m⟩
  obtain⟨r,I,A,m⟩:=R;refine⟨_,r,T,I,U1 x.2 C,A,⟨by simp[m.size],fun i u k a Q=>?_⟩⟩;rw[aJ]at a;obtain⟨v,O,rfl⟩:=n2.1 a;exact yL H e (m.at_ i v k O Q)
 .obtain⟨_,c,T,f,C⟩:=id Z;refine⟨_,T,_,U1 Z C,fun v O=>?_⟩;obtain⟨x,_,rfl⟩:=Array.mem_map.1 O;exact yK S _ x
def PF{E:Env} (F:SubG S E E)(t:E.junk=true)(N:E.sh=true) {Y:Nat->Prop} {a:Nat->Prop} {bs:List Frame} {f e:Frame} {cs d:List Frame} {l w:World} (R:∀b,Y b->∃c T f,l.heap[b]?=some (.cells c T f))(h:Rel E a bs B f cs l e d w):Rel E (fun b=>a b∨Y b) bs B f cs (sanW S (fun b=>X b∨Y b) Y l) e d w:=by
 have L:(B.on fun b=>X b∨Y b).le B:=fun b r x=>x.1;obtain⟨s,⟨J,M,P,k,q,w6,U,W,w9,aB,H⟩,m⟩:=h;refine⟨s,⟨J,M,fun b r j=>by rw[fU];exact P b r j,fun b r j p=>?_,fun b r j p=>?_,fun _ _ x=>x.elim,U,W,by rw[fU];exact w9,fun p=>(by rw[N]at p;cases p),fun g V=>⟨PC (H g V).1,(H g V).2⟩⟩,fun b j=>?_⟩;·rw[U0 (fun y=>p (.inr y))];exact k b r j fun D=>p (.inl D)
 .by_cases y:Y b
  .obtain⟨c,T,f,K⟩:=R b y;have Q:∃A I,w.heap[r]?=some (.cells A T I)/\AR E B c A:=by
    by_cases p:a b;·obtain⟨c1,aA,T1,f1,s,C,m⟩:=q b r j p;rw[K]at s;cases s;exact⟨_,_,C,m⟩
    .obtain⟨o,o',s,C,m⟩:=k b r j p;rw[K]at s;cases s;cases m with|cells c A T f m=>exact⟨_,_,C,m⟩
   obtain⟨A,I,C,m⟩:=Q;refine⟨_,A,T,I,U1 y K,C,⟨by simp[m.size],fun i u G Z O=>?_⟩⟩;rw[aJ]at Z;obtain⟨v,z,rfl⟩:=n2.1 Z;exact(yL F t (m.at_ i v G z O)).mono L
  .rw[U0 y];exact q b r j (p.resolve_right y)
 .rw[fU];rcases j with j|j;·exact m b j
  .obtain⟨c,T,f,h⟩:=R b j;exact(bP.1 h).1
def uT{Y:Nat->Prop} {l:World} (p:hE S X l) (r:∀b,Y b->∃c T f,l.heap[b]?=some (.cells c T f)):hE S (fun b=>X b∨Y b) (sanW S (fun b=>X b∨Y b) Y l):=by
 intro b s;by_cases g:Y b;·obtain⟨c,T,f,j⟩:=r b g;refine⟨_,T,_,U1 g j,fun v m=>?_⟩;obtain⟨x,_,rfl⟩:=Array.mem_map.1 m;exact yK S _ x
 .obtain⟨c,T,f,j,m⟩:=p b (s.resolve_right g);exact⟨c,T,f,by rw[U0 g];exact j,fun v h=>(m v h).mono fun a b x=>⟨x.1,.inl x.2⟩⟩
def PG(R:E2.P=E1.P)(j:SubG S E1 E2)(N:E2.junk=true)(I:E2.sh=true)(m:E2.free=true)(F:∀g,E2.glob g=false)(C:∀g,E2.dark g=false)(A:∀f,E1.dfr f=false) {sh:Nat->Prop} {l w:World} {i:List Frame} {g:FuncId} {a:Array Value} {fn:Func} {body:Code} {cs:List Frame} {d:Frame} {t:List Frame} (K:List Frame)(u:E1.P.funcs[g]?=some fn)(o:fn.body=some body)(q:aV body=true)(V:∀v∈a,VR S (idX (Z7 B l)) v v)(h:Rel E1 sh i B (Frame.enter E1.P g a .normal) cs l d t w):hE S (Z7 B l) (sanW S (Z7 B l) (Z7 B l) l)/\Rel E2 (Z7 B l) K (B.on (Z7 B l)) (Frame.enter E1.P g a .normal) [ZH E2.P] (sanW S (Z7 B l) (Z7 B l) l) d K w:=by
 obtain⟨Q,L⟩:=PE (S:=S) R j N I F C h.wr;refine⟨L,⟨?_,Q,fun b o=>?_⟩⟩
 .have hF:=h.st.head;refine .last _ _ ⟨hF.fn,?_,?_,?_,hF.mode,⟨hF.kind.1,hF.kind.2.imp id fun x=>(by have:=x.1;rw[A]at this;cases this)⟩,.inl ⟨rfl,?_⟩⟩ rfl
  .refine hF.tmps.on' j N fun v r=>?_;rcases lS.1 (show v∈a++Array.replicate _ undef from r)with r|r;·exact V v r
   .rw[(Array.mem_replicate.1 r).2];exact undefR
  .have H:=hF.todo;have e:(Frame.enter E1.P g a .normal).todo=[.code body]:=by simp[Frame.enter,u,o]
   rw[e]at H |-;generalize d.todo=x at H |-;cases H with|cons y y' k k' hy hs=>cases hs;cases hy with|code c hc=>exact .cons _ _ _ _ (.code _ ⟨q,fun p=>by rw[m]at p;cases p⟩) .nil|mark=>exact absurd q (by simp[aV])
  .have s:=hF.defers;have e:(Frame.enter E1.P g a .normal).defers=[]:=rfl;rw[e]at s |-;generalize d.defers=x at s |-;cases s;exact .nil
  .rcases hF.round with⟨_,x⟩|⟨_,_,x,_⟩;·exact x
   .cases x
 .obtain⟨c,T,Z,O,_⟩:=L b o;exact(bP.1 O).1
end
structure Kept1 (w w':World):Prop where
 size:w.heap.size<=w'.heap.size
 heap:∀x,x<w.heap.size->w'.heap[x]?=w.heap[x]?
 os:w'.os=w.os
 output:w'.output=w.output
def Kept1.refl(w:World):Kept1 w w:=⟨r3 _,fun _ _=>rfl,rfl,rfl⟩
def Kept1.trans{a b c:World} (h:Kept1 a b)(k:Kept1 b c):Kept1 a c:=⟨l3 h.size k.size,fun x f=>(k.heap x (h8 f h.size)).trans (h.heap x f),k.os.trans h.os,k.output.trans h.output⟩
def dV(P:Program)(o:Frame)(w:World)(R:Value->Prop):Prop:=∀{Post:Value->World->Prop} {c:Frame} {m:List Frame} {d:Array Goroutine} {p:Option (Nat×Nat)} {t:Trace} {q:Nat->Nat},d[0]?=some (G o (c::m))->Leavers P t d q->Past (fun _=>False) w.heap.size t->(∀{v:Value} {j:World} {f:Array Goroutine} {e:Option (Nat×Nat)} {g:Trace} {h:Nat->Nat},R v->Kept1 w j->f[0]?=some (G (c.finish v) m)->Leavers P g f h->Past (fun _=>False) j.heap.size g->Fin P Post f j e g)->Fin P Post d w p t
def pad(l:World)(n:Nat):World:={l with heap:=l.heap++Array.replicate n (.deferred none)}
def eL(l:World)(n:Nat):(pad l n).heap.size=l.heap.size+n:=by simp[pad]
def K1(l:World)(n:Nat) {b:Nat} (h:b<l.heap.size):(pad l n).heap[b]?=l.heap[b]?:=by simp[pad,Array.getElem?_append_left h]
structure OldOk (W:World)(OldB B:Blk)(w:World):Prop where
 kept:Kept1 W w
 old:∀b x,B b x->x<W.heap.size->OldB b x
section
variable (E:Env)(Post:Value->World->Prop)(W l0:World)(OldB:Blk)(sh:Nat->Prop)(bs':List Frame)
def yN(f:Frame)(cs:List Frame)(l:World):Prop:=∀{B:Blk} {c:Frame} {b:List Frame} {w:World} {a:Array Goroutine} {d:Option (Nat×Nat)} {t:Trace} {q:Nat->Nat},a[0]?=some (G c b)->Leavers E.P t a q->Past (fun _=>False) w.heap.size t->Rel E sh bs' B f cs l c b w->OldOk W OldB B w->Fin E.P Post a w d t
structure StopG (f:Frame)(cs:List Frame)(l:World):Prop where
 deep:cs≠[]
 calm:∀c,f.mode≠.panicking c
 keep:∀x,x<l0.heap.size->l.heap[x]?=l0.heap[x]?
 good:yN E Post W OldB sh bs' f cs l
end
section
variable {E:Env} {Post:Value->World->Prop} {W l0:World} {OldB:Blk} {sh:Nat->Prop} {bs':List Frame}
def Rel.re'{B:Blk} {f b:Frame} {cs a:List Frame} {l w:World} {t:Nat->Question->Nat} {d:Nat} (h:Rel E sh bs' B f cs (l.re t d) b a w):Rel E sh bs' B f cs l b a w:=⟨h.st,h.wr.retape rfl rfl rfl fun _ _ x=>x.elim,h.low⟩
def fT:Halts (StopG E Post W l0 OldB sh bs'):=⟨fun f cs l h=>⟨h.deep,h.calm⟩,fun f cs l t d h=>⟨h.deep,h.calm,h.keep,fun c g m p j=>h.good c g m p.re' j⟩⟩
def Jx(J:E.Fine)(v:∀b x,OldB b x->sh b∨(b=x/\x<l0.heap.size/\l0.heap[x]?=W.heap[x]?/\E.sh=false/\E.junk=false)) {f:Frame} {cs:List Frame} {l:World} (M:LG E (StopG E Post W l0 OldB sh bs') f cs l):yN E Post W OldB sh bs' f cs l:=by
 intro B fa Y w gs sl t q d F S U c;refine OC J fT M d F S U ?_;intro L f₁ O l₁ Q N w₁ Z X t₁ q₁ y C _ s H j p;have m:∀b x,L b x->x<W.heap.size->OldB b x:=by
  intro b x r A;rcases p.al b x r with h|⟨_,h,_⟩;·exact c.old b x h A
  .have:=c.kept.size;omega
 refine y.good C s H j ⟨⟨l3 c.kept.size p.size.1,fun x A=>?_,p.same.1.trans c.kept.os,p.same.2.trans c.kept.output⟩,m⟩;by_cases g:∀b,B b x->sh b;·rw[p.keep x (h8 A c.kept.size) g];exact c.kept.heap x A
 .obtain⟨b,r⟩:=pB.1 g;obtain⟨r,K⟩:=Classical.not_imp.1 r;obtain⟨rfl,i,n,z,D⟩:=(v b x (c.old b x r A)).resolve_left K;have I:=p.le _ _ r;obtain⟨o,o',R,T,V⟩:=j.wr.obj _ _ I K;have e:=V.eq D (j.wr.sh z).2.2;subst e;rw[T,<-R,y.keep _ i,n]
def yO{S:Side} {B:Blk} {l w d:World} {n:Nat} (m:Kept1 w d)(s:E.sh=false->l.heap.size+n=d.heap.size)(e:∀i,¬S.till i)(h:WR E S B l w):WR E S B (pad l n) d:=by
 refine⟨h.fn,h.inj,fun b c f=>⟨by rw[eL];have:=(h.dom b c f).1;omega,h8 (h.dom b c f).2 m.size⟩,fun b c f j=>?_,fun b c f j=>?_,fun i q r=>absurd r (e _),h.glob,h.low,⟨by rw[eL];have:=h.gsz.1;omega,l3 h.gsz.2 m.size⟩,fun j=>⟨(h.sh j).1,by rw[eL];exact s j,(h.sh j).2.2⟩,fun g p=>⟨?_,(h.dark g p).2⟩⟩;·rw[K1 l n (h.dom b c f).1,m.heap c (h.dom b c f).2];exact h.obj b c f j
 .rw[K1 l n (h.dom b c f).1,m.heap c (h.dom b c f).2];exact h.shr b c f j
 .have:=(h.dark g p).1;rw[K1 l n (bP.1 this).1];exact this
def yP(Z:E.Fine)(s:∀b x,OldB b x->sh b∨(b=x/\x<l0.heap.size/\l0.heap[x]?=W.heap[x]?/\E.sh=false/\E.junk=false)) {f c:Frame} {cs:List Frame} {l:World} {R:Value->Prop} (N:cs≠[])(m:∀c,f.mode≠.panicking c)(p:∀x,x<l0.heap.size->l.heap[x]?=l0.heap[x]?)(O:∀{B:Blk} {d:Frame} {a:List Frame} {w:World},Rel E sh bs' B f (c::cs) l d a w->OldOk W OldB B w->dV E.P d w R)(o:∀v,R v->bH 8 v=true)(k:∀v n,R v->LG E (StopG E Post W l0 OldB sh bs') (c.finish v) cs (pad l n)):StopG E Post W l0 OldB sh bs' f (c::cs) l:=by
 refine⟨Qd,m,p,?_⟩;intro B d a w G M t q V I e g K;obtain⟨r,j,rfl,y⟩:∃r j,a=r::j/\ST E B [ZH E.P] bs' (c::cs) (r::j):=by have:=g.st;cases this with
  |last _ _ _ _=>exact absurd rfl N|cons _ _ _ a hf A C=>cases a with
   |nil=>cases C|cons r j=>exact⟨r,j,rfl,C⟩
 refine O g K V I e fun {v z T D S J} Q A F H L=>?_;refine Jx Z s (k v (z.heap.size-w.heap.size) Q) F H L ⟨y.top (y.head.finish (VR.closed 8 v (o v Q))) (Blk.le_refl _) (eR _ _),yO A (fun C=>?_) (fun i h=>h) g.wr,fun b u=>?_⟩ ⟨K.kept.trans A,K.old⟩;·have:=(g.wr.sh C).2.1;have:=A.size;omega
 .rw[eL];have:=g.low b u;omega
def PH{P:Program} {Post:Value->World->Prop} {b:Frame} {w:World} (h:∀{a:Array Goroutine} {c:Option (Nat×Nat)} {t:Trace} {q:Nat->Nat},a[0]?=some (G b [])->Leavers P t a q->Past (fun _=>False) w.heap.size t->Fin P Post a w c t):Fin P Post #[G b []] w none #[]:=h rfl (leavers_one P _) (past_nil.mono (e6 _))
end
variable {E0:Env}
structure Self (E:Env)(sh:Nat->Prop)(B:Blk)(l:World):Prop where
 wr:WR E ⟨sh,fun _=>True⟩ B l l
 low:∀b,sh b->b<l.heap.size
 idn:∀b b',B b b'->b=b'
section
variable {E:Env} {sh:Nat->Prop} {B:Blk} {l:World}
def Self.re(h:Self E sh B l)(t:Nat->Question->Nat)(d:Nat):Self E sh B (l.re t d):=⟨h.wr.retape rfl rfl rfl fun _ _ _=>rfl,h.low,h.idn⟩
def Self.unre{t:Nat->Question->Nat} {d:Nat} (h:Self E sh B (l.re t d)):Self E sh B l:=⟨h.wr.retape rfl rfl rfl fun _ _ _=>rfl,h.low,h.idn⟩
def Self.pad(h:Self E sh B l)(n:Nat):Self E sh B (pad l n):=by
 obtain⟨⟨y,d,r,A,C,I,F,H,K,m,p⟩,v,x⟩:=h;refine⟨⟨y,d,fun b f c=>?_,fun b f c j=>?_,fun b f c j=>?_,fun _ _ _=>rfl,F,H,?_,fun j=>⟨(m j).1,rfl,(m j).2.2⟩,fun g s=>⟨?_,(p g s).2⟩⟩,fun b c=>?_,x⟩;·rw[eL];have:=r b f c;omega
 .rw[K1 l n (r b f c).1,K1 l n (r b f c).2];exact A b f c j
 .rw[K1 l n (r b f c).1,K1 l n (r b f c).2];exact C b f c j
 .rw[eL];omega
 .have:=(p g s).1;rw[K1 l n (bP.1 this).1];exact this
 .rw[eL];have:=v b c;omega
def yQ{a:Act} (h:Self E sh B l)(b:AR E B a.tmps a.tmps):Ops E B a.eval a.eval:=by intro x c;cases x with|tmp t=>exact b.getD t undefR|const v=>exact VR.closed 8 v c|global g=>exact .ptr _ _ (.mk _ _ _ _ (h.wr.glob g c))|func f=>exact Zl (.func f c) AR.empty AR.empty
def yR(a:Self E sh B l) {α:Type} {Q:Blk->α->α->Prop} {s:Sem α} (h:SR E Q B s s) {t:Nat->Question->Nat} {d:Nat} {r:α} {w:World} (v:s.run E.P (l.re t d)=.ok r w):∃f,B.le f/\Self E sh f w/\Q f r r:=by
 have c:=h.both (a.re t d).wr a.low fun _ _ _=>trivial;rw[v]at c;obtain⟨f,b,e,y,m,A,g,p⟩:=c;cases m;refine⟨f,g.le,⟨g.wr.retape rfl rfl rfl fun _ _ _=>rfl,fun b c=>h8 (a.low b c) g.size.2.1,fun b j c=>?_⟩,p⟩;rcases g.al b j c with x|⟨C,F,H⟩;·exact a.idn _ _ x
 .omega
def PI(j:E.Fine)(e:Self E sh B l) {a:Act} (b:AR E B a.tmps a.tmps) {o:Oper} (m:E.op o.op=true) {t:Nat->Question->Nat} {d:Nat} {v:Value} {w:World} (p:(execOp a.eval o).run E.P (l.re t d)=.ok (.value v) w):∃c,B.le c/\Self E sh c w/\VR E c v v/\AR E c (a.put o.dst v).tmps (a.put o.dst v).tmps:=by obtain⟨c,f,g,h⟩:=yR e (oU j (yQ e b) (fun _ _=>rfl) m) p;cases h with|value v v' hv=>refine⟨c,f,g,hv,?_⟩;cases o.dst with|none=>exact b.mono f|some x=>exact(b.mono f).set x hv
def PJ(h:E.Fine)(e:Self E sh B l) {a:Act} (b:AR E B a.tmps a.tmps) {o:Oper} (j:E.op o.op=true) {t:Nat->Question->Nat} {d:Nat} {w:World} (m:(execOp a.eval o).run E.P (l.re t d)=.ok .skip w):∃c,B.le c/\Self E sh c w/\AR E c (a.put o.dst undef).tmps (a.put o.dst undef).tmps:=by obtain⟨c,f,g,p⟩:=yR e (oU h (yQ e b) (fun _ _=>rfl) j) m;refine⟨c,f,g,?_⟩;cases o.dst with|none=>exact b.mono f|some x=>exact(b.mono f).set x undefR
end
def Env.run(E0:Env)(tab:Code):Env:=E0.wide E0.good false tab
def yS{E:Env} (h:Sub E0 E)(a:Code):Sub (E0.run a) E:=⟨h.P,h.glob,h.sh,h.nn,h.dark,fun x=>(by cases x),h.good,h.z0⟩
def U7(c:E0.junk=false)(tab:Code):Sub E0 (E0.run tab):=⟨rfl,rfl,rfl,rfl,rfl,fun h=>(by rw[c]at h;cases h),fun _ h=>h,fun h=>h⟩
def tG(a:Code):Sub (E0.run a) E0:=⟨rfl,rfl,rfl,rfl,rfl,fun h=>(by cases h),fun _ h=>h,fun h=>h⟩
section
variable {E0 E:Env} {sh:Nat->Prop} {B:Blk} {l:World} {Stop:Frame->List Frame->World->Prop} {b:Frame} {a:Act} {k:List Item} {cs:List Frame} {ops:Array Oper} {i:Nat} {rest:List Nat} {o:Oper}
def fQ(q:Halts Stop)(f:Sub E0 E)(A:E0.Fine)(n:Self E0 sh B l)(e:AR E0 B a.tmps a.tmps)(H:ops[i]?=some o)(z:Region.wanted o (yielded ops a.tmps)=true)(F:b.kind≠.early)(g:E0.op o.op=true)(h:∀t d (K:Result Next->Prop),(∀v W,(∀c,B.le c->Self E0 sh c W->AR E0 c (a.put o.dst v).tmps (a.put o.dst v).tmps->LG E Stop (b.at (a.put o.dst v) (.inRegion ops rest::k)) cs W)->K (.ok (.value v) (W.re t d)))->(∀W,(∀c,B.le c->Self E0 sh c W->AR E0 c (a.put o.dst undef).tmps (a.put o.dst undef).tmps->LG E Stop (b.at (a.put o.dst undef) (.inRegion ops rest::k)) cs W)->K (.ok .skip (W.re t d)))->K ((execOp a.eval o).run E0.P (l.re t d))):LG E Stop (b.at a (.inRegion ops (i::rest)::k)) cs l:=by
 refine ZS q H z F (f.op _ g) fun t d K I L=>?_;have x:=h t d (fun r=>(execOp a.eval o).run E0.P (l.re t d)=r->K r) (fun v W p s=>?_) (fun W p s=>?_) rfl;·rw[f.P];exact x
 .obtain⟨c,j,m,y,C⟩:=PI A n e g s;exact I v W (p c j m.unre C)
 .obtain⟨c,j,m,y⟩:=PJ A n e g s;exact L W (p c j m.unre y)
def yT(hG:E0.Fine)(hF:Strict E0)(U:∀tab,(E0.run tab).Fine)(N:Sub E0 E) {tab:Code} {f z c:Frame} {bs:List Frame} {R:Value->World->Prop} (u:Self E0 sh B l)(e:FR E0 B f f)(H:f.roundOf=none)(Y:FR (E0.run tab) B f z)(hR:∀v w t d,R v w->R v (w.re t d))(hc:∀t d,∃n V q v,runN E0.P n (lone f [ZH E0.P] (l.re t d))=.next (lone V [ZH E0.P] q)/\V.leaving E0.P q (.returned v)/\R v q)(k:∀v D F,R v D->B.le F->Self E0 sh F D->VR E0 F v v->LG E Stop (c.finish v) bs D):LG E Stop z (c::bs) l:=by
 have hO:Own E0 sh [ZH E0.P] f [ZH E0.P] l B:=⟨.last _ _ e H,u.wr,u.low,u.idn⟩;have hL:LG E0 (Ret E0.P R) f [ZH E0.P] l:=Cl (s:=⟨f,[ZH E0.P],l⟩) hG hF (Q9 E0.P R) ⟨⟨B,hO⟩,fun t d=>by obtain⟨n,V,q,v,C,y,Z⟩:=hc t d;exact⟨n,V,_,q,C,rfl,v,q.tape,q.drawn,y,Z⟩⟩;have W:=hL.sub (U7 hF.junk tab);have X:Own2 (E0.run tab) sh (c::bs) f [ZH E0.P] l z (c::bs) B:=⟨.last _ _ Y H,(U7 hF.junk tab).wr u.wr,u.low,u.idn⟩;have Q:LG (E0.run tab) (fun f cs l=>LG E Stop f cs l) z (c::bs) l:=by refine pD (bs':=c::bs) (U tab) rfl (Q9 E0.P R) W X ?_;rintro B₁ M aJ O p aH ⟨rfl,v,t,d,hl,hr⟩ aF m;have r:=m.st;cases r with
  |cons f f' cs cs' e _ hs=>cases hs with|cons _ _ _ _ _ _ h=>cases h
  |last _ _ e hrd=>
   obtain⟨hm,hd,hk,fn,aE,L⟩:=hl;have J:M.tmps=p.tmps:=e.tmps.eq (show (E0.run tab).junk=false from rfl) m.idn;have S:=e.tmps;rw[<-J]at S;have A:=SR.retape (E:=E0.run tab) rfl (k6 fn S) m.wr m.low m.idn (t:=t) (d:=d) (v:=v) L;have K:∀j g,p.leaving E0.P (O.re j g) (.returned v):=by
    intro j g;refine⟨?_,?_,(by
     rcases e.kind.2 with h|⟨h,_⟩;·exact h
     .have y:E0.dfr M.fn=true:=h;rw[hF.dfr]at y;cases y),fn,e.fn▸aE,?_⟩
    .rcases e.mode with⟨C,y⟩|⟨C,y⟩;·rw[hm]at C;cases C
     .exact y
    .have:=e.defers;rw[hd]at this;generalize p.defers=x at this |-;cases this;rfl
    .have h:=(A j g).1;rw[<-J];exact h
   have I:∀j g,∃T,stepG E0.P true (G p (c::bs)) (O.re j g)=.go (G (c.finish v) bs) (O.re j g) T:=fun j g=>yD (K j g);refine .step _ _ _ (fun aG=>?_) (fun j g=>?_) fun j g g1 aI l1 aK r=>?_;·exfalso;have:=(K t d).1;rw[aG]at this;cases this
   .obtain⟨T,h⟩:=I j g;exact⟨_,_,_,_,h⟩
   .obtain⟨T,h⟩:=I j g;have h':stepG (E0.run tab).P true (G p (c::bs)) (O.re j g)=.go (G (c.finish v) bs) (O.re j g) T:=h;rw[h']at r;simp only[cE,G,hA,bQ]at r;obtain⟨⟨rfl,rfl⟩,rfl,_⟩:=r;obtain⟨F,C,y,Z,h4⟩:=(A j g).2;refine .stop _ _ _ (k v _ F ?_ (Blk.le_trans aF C) ⟨(tG tab).wr (Z.retape rfl rfl rfl fun _ _ _=>rfl),m.low,y⟩ ((tG tab).vr h4));have:=hR _ _ j g hr;exact this
 exact(Q.sub (yS N tab)).trans fun f cs l h=>h
def R2{f:Env} {F:Nat} (d:AR f B a.tmps a.tmps) (e:a.defers=[]) {g c:List Item} (h:KR f B g c):FR f B ((base F).at a g) ((base F).at a c):=⟨rfl,d,h,(by show DR B a.defers a.defers;rw[e];exact .nil),.inl ⟨rfl,rfl⟩,⟨rfl,.inl rfl⟩,.inl ⟨rfl,rfl⟩⟩
def yU(m:E0.Fine)(hF:Strict E0)(f:∀tab,(E0.run tab).Fine)(h:Sub E0 E) {g:FuncId} {args:Array Value} {R:Value->World->Prop} (p:E0.good g=true)(D:Self E0 sh B l)(ha:AR E0 B args args)(z:∀v w t d,R v w->R v (w.re t d))(s:∀t d,Calls E0.P g args (l.re t d) fun e w=>∃v,e=.returned v/\R v w) {c:Frame} {bs:List Frame} (k:∀v q j,R v q->B.le j->Self E0 sh j q->VR E0 j v v->LG E Stop (c.finish v) bs q):LG E Stop (Frame.enter E0.P g args .normal) (c::bs) l:=by have C:Sub E0 (E0.run (.refuse "#")):=U7 hF.junk _;refine yT (tab:=.refuse "#") (R:=R) m hF f h D (P9 m p ha) rfl (P9 (f _) p (C.ar ha)) z (fun t d=>?_) k;obtain⟨e,F,r,⟨v,rfl,A⟩,⟨n,y⟩,_,x⟩:=s t d [ZH E0.P];exact⟨n,r,F,v,y,x,A⟩
def yV(F:Halts Stop)(C:E0.Fine)(hF:Strict E0)(m:∀q,(E0.run q).Fine)(c:Sub E0 E) {g:FuncId} {args:Array Value} {R:Value->World->Prop} (z:Self E0 sh B l)(h:AR E0 B a.tmps a.tmps)(r:ops[i]?=some o)(G:Region.wanted o (yielded ops a.tmps)=true)(K:b.kind≠.early)(p:E0.op o.op=true)(L:∀w,(execOp a.eval o).run E0.P w=.ok (.enter g args) w)(I:E0.good g=true)(D:AR E0 B args args)(u:∀v w t d,R v w->R v (w.re t d))(H:∀t d,Calls E0.P g args (l.re t d) fun e w=>∃v,e=.returned v/\R v w)(N:∀v n f,R v n->B.le f->Self E0 sh f n->AR E0 f (a.put o.dst v).tmps (a.put o.dst v).tmps->LG E Stop (b.at (a.put o.dst v) (.inRegion ops rest::k)) cs n):LG E Stop (b.at a (.inRegion ops (i::rest)::k)) cs l:=by refine eS F r G K (c.op _ p) (fun w=>by rw[c.P];exact L w) ?_;rw[c.P];refine yU C hF m c I z D u H fun v n f s j y A=>?_;rw[hW,r];refine N v n f s j y ?_;show AR E0 f (a.put o.dst v).tmps (a.put o.dst v).tmps;cases o.dst with|none=>exact h.mono j|some x=>exact(h.mono j).set x A
def yW(I:E0.Fine)(hF:Strict E0)(s:∀tab,(E0.run tab).Fine)(m:Sub E0 E) {F:Nat} {fn:Func} {x:Code} {R:Value->World->Prop} (M:Self E0 sh B l)(z:AR E0 B a.tmps a.tmps)(D:a.defers=[])(G:E0.code x=true)(j:E0.P.funcs[F]?=some fn)(J:∀v w t d,R v w->R v (w.re t d))(K:∀t d,x.wp E0.P (fun e r q=>(e=.ret∨e=.normal)/\r.defers=[]/\∃v,(results fn r.tmps).run E0.P q=.ok v q/\R v q) a (l.re t d)) {c:Frame} {bs:List Frame} (k:∀v u p,R v u->B.le p->Self E0 sh p u->VR E0 p v v->LG E Stop (c.finish v) bs u):LG E Stop ((base F).at a [.code x]) (c::bs) l:=by
 have N:Sub E0 (E0.run (.refuse "#")):=U7 hF.junk _;refine yT (tab:=.refuse "#") (R:=R) I hF s m M (R2 z D (.cons _ _ _ _ (.code _ (E0.ok_of G)) .nil)) rfl (R2 (N.ar z) D (.cons _ _ _ _ (.code _ ⟨D8 x G,fun h=>(by cases h)⟩) .nil)) J (fun t d=>?_) k;obtain⟨e,r,q,⟨L,g,v,C,A⟩,f⟩:=K t d (base F) [] [ZH E0.P];rcases L with rfl|rfl;·obtain⟨H,n,y⟩:=f;exact⟨n,_,q,v,y,⟨rfl,g,rfl,fn,j,C⟩,A⟩
 .obtain⟨n,y⟩:=Steps.trans f (.one step_end);exact⟨n,_,q,v,y,⟨rfl,g,rfl,fn,j,C⟩,A⟩
def HO(P:Program)(F:Nat)(R:Act->World->Prop)(f:Frame)(cs:List Frame)(l:World):Prop:=cs=[ZH P]/\∃a t d,f=(base F).at a [.code (.refuse "#")]/\a.defers=[]/\R a (l.re t d)
def z6(hG:E0.Fine)(hF:Strict E0)(T:∀X,(E0.run X).Fine)(C:Sub E0 E) {F:Nat} {x q:Code} {R:Act->World->Prop} (G:Self E0 sh B l)(ha:AR E0 B a.tmps a.tmps)(hd:a.defers=[])(hx:E0.code x=true)(hR:∀v w t d,R v w->R v (w.re t d))(A:∀t d,x.wp E0.P (fun e z J=>e=.normal/\z.defers=[]/\R z J) a (l.re t d))(k':∀z W L,R z W->z.defers=[]->B.le L->Self E0 sh L W->AR E0 L z.tmps z.tmps->LG E Stop ((base F).at z [.code q]) cs W):LG E Stop ((base F).at a [.code x,.code q]) cs l:=by
 have U:Sub E0 (E0.run q):=U7 hF.junk _;have aB:KR E0 B [.code (.refuse "#")] [.code (.refuse "#")]:=by have h:=KR.cons (E:=E0) (B:=B) _ _ _ _ .mark .nil;rw[hF.tab]at h;exact h
 have hO:Own E0 sh [ZH E0.P] ((base F).at a [.code x,.code (.refuse "#")]) [ZH E0.P] l B:=⟨.last _ _ (R2 ha hd (.cons _ _ _ _ (.code _ (E0.ok_of hx)) aB)) rfl,G.wr,G.low,G.idn⟩;have hH:Halts (HO E0.P F R):=⟨fun f cs l h=>by obtain⟨rfl,a,t,d,rfl,_⟩:=h;exact⟨Qd,fun c A=>by cases A⟩,fun f cs l t d h=>by obtain⟨h0,a,t',d',N,p,O⟩:=h;exact⟨h0,a,t',d',N,p,O⟩⟩;have hL:LG E0 (HO E0.P F R) ((base F).at a [.code x,.code (.refuse "#")]) [ZH E0.P] l:=Cl (s:=⟨_,[ZH E0.P],l⟩) hG hF hH ⟨⟨B,hO⟩,fun t d=>by obtain⟨e,z,J,⟨rfl,j,M⟩,n,hn⟩:=A t d (base F) [.code (.refuse "#")] [ZH E0.P];exact⟨n,_,_,J,hn,rfl,z,J.tape,J.drawn,rfl,j,M⟩⟩;have V:=hL.sub U;have Z:Own2 (E0.run q) sh cs ((base F).at a [.code x,.code (.refuse "#")]) [ZH E0.P] l ((base F).at a [.code x,.code q]) cs B:=⟨.last _ _ (R2 (U.ar ha) hd (.cons _ _ _ _ (.code _ ⟨D8 x hx,fun h=>(by cases h)⟩) (.cons _ _ _ _ .mark .nil))) rfl,U.wr G.wr,G.low,G.idn⟩;have H:LG (E0.run q) (fun f cs l=>LG E Stop f cs l) ((base F).at a [.code x,.code q]) cs l:=by refine pD (bs':=cs) (T q) rfl hH V Z ?_;rintro I f₁ aF K m aE ⟨rfl,z,t,d,rfl,j,M⟩ aA g;have aD:=g.st;cases aD with
  |cons f f' cs cs' hf _ hs=>cases hs with|cons _ _ _ _ _ _ h=>cases h
  |last _ _ hf hrd=>
   have et:z.tmps=m.tmps:=hf.tmps.eq (show (E0.run q).junk=false from rfl) g.idn;have hA:AR (E0.run q) I z.tmps z.tmps:=by have:=hf.tmps;rw[<-et]at this;exact this
   have e:m=(base F).at z [.code q]:=by
    obtain⟨N,p,O,h4,h5,h6,h7⟩:=hf;obtain⟨fn,tm,td,Y,md,kd,rd⟩:=m;have e1:fn=F:=N.symm;have e2:tm=z.tmps:=et.symm;have e3:td=[.code q]:=by have Q:KR (E0.run q) I [.code (.refuse "#")] td:=O;cases Q with|cons y y' k k' hy hs=>cases hs;cases hy with
      |code c A=>exact absurd A.1 (by simp[aV])|mark=>rfl
    have e4:Y=z.defers:=by have r:DR I z.defers Y:=h4;rw[j]at r |-;cases r;rfl
    have e5:md=.run:=by
     rcases h5 with⟨_,x⟩|⟨x,_⟩;·exact x
     .cases x
    have e6:kd=.normal:=by
     rcases h6.2 with x|⟨x,_⟩;·exact x
     .have p:E0.dfr F=true:=x;rw[hF.dfr]at p;cases p
    have e7:rd=none:=by
     rcases h7 with⟨_,x⟩|⟨_,_,x,_⟩;·exact x
     .cases x
    subst e1 e2 e3 e4 e5 e6 e7;rfl
   rw[e];have aC:R z K:=by have:=hR _ _ K.tape K.drawn M;exact this
   exact .stop _ _ _ (k' z K I aC j aA ⟨(tG q).wr g.wr,g.low,g.idn⟩ ((tG q).ar hA))
 exact(H.sub (yS C q)).trans fun f cs l h=>h
def pF(H:E0.Fine)(hF:Strict E0)(m:Sub E0 E) {F:Nat} {fn:Func} {x:Code} {R:Value->World->Prop} (z:Self E0 sh B l)(ha:AR E0 B a.tmps a.tmps)(M:a.defers=[])(Q:E0.code x=true)(c:E0.P.funcs[F]?=some fn)(N:∀t d,x.wp E0.P (fun e p q=>(e=.ret∨e=.normal)/\p.defers=[]/\∃v,(results fn p.tmps).run E0.P q=.ok v q/\R v q) a (l.re t d))(k:∀f G,Ret E0.P R f [ZH E0.P] G->f.fn=F->LG E Stop f [ZH E0.P] G):LG E Stop ((base F).at a [.code x]) [ZH E0.P] l:=by
 have L:Own E0 sh [ZH E0.P] ((base F).at a [.code x]) [ZH E0.P] l B:=⟨.last _ _ (R2 ha M (.cons _ _ _ _ (.code _ (E0.ok_of Q)) .nil)) rfl,z.wr,z.low,z.idn⟩;have I:Halts (fun f cs l=>Ret E0.P R f cs l/\f.fn=F):=⟨fun f cs l h=>(Q9 E0.P R).call f cs l h.1,fun f cs l t d h=>⟨(Q9 E0.P R).tape f cs l t d h.1,h.2⟩⟩;have K:LG E0 (fun f cs l=>Ret E0.P R f cs l/\f.fn=F) ((base F).at a [.code x]) [ZH E0.P] l:=Cl (s:=⟨_,[ZH E0.P],l⟩) H hF I ⟨⟨B,L⟩,fun t d=>by
  obtain⟨e,p,q,⟨O,j,v,A,y⟩,g⟩:=N t d (base F) [] [ZH E0.P];rcases O with rfl|rfl;·obtain⟨C,n,r⟩:=g;exact⟨n,_,_,q,r,⟨rfl,v,q.tape,q.drawn,⟨rfl,j,rfl,fn,c,A⟩,y⟩,rfl⟩
  .obtain⟨n,r⟩:=Steps.trans g (.one step_end);exact⟨n,_,_,q,r,⟨rfl,v,q.tape,q.drawn,⟨rfl,j,rfl,fn,c,A⟩,y⟩,rfl⟩⟩;refine(K.sub m).trans ?_;rintro f cs l ⟨⟨rfl,h⟩,c⟩;exact k f l ⟨rfl,h⟩ c
end
section
variable {G:Env} {B:Blk}
def HP:∀(n:Nat)(c:ByteArray) {a b:Addr} {B:Blk},AddrR B a b->SR G QE B (Extern.Bytes.loadBytes a n c) (Extern.Bytes.loadBytes b n c)
 |0,c,a,b,B,h=>Zy rfl|n+1,c,a,b,B,h=>by
  unfold Extern.Bytes.loadBytes;refine Za (jC h) fun j v p f g=>?_;cases g<;>try exact SR.halt _ (.stuck _) _ trivial
  rename_i k m;cases k<;>first|exact SR.halt _ (.stuck _) _ trivial|exact HP n _ ((h.mono f).add 1)
def mY{v c:Value} (h:VR G B v c):SR G QE B (Extern.Bytes.bytesOf v) (Extern.Bytes.bytesOf c):=by unfold Extern.Bytes.bytesOf;cases h<;>first|exact SR.halt _ (.stuck _) _ trivial|exact Zy rfl|exact HP _ _ ‹_›
def yX{v c:Value} (h:VR G B v c):SR G QE B (Extern.Bytes.asByte v) (Extern.Bytes.asByte c):=by
 unfold Extern.Bytes.asByte;cases h<;>try exact SR.halt _ (.stuck _) _ trivial
 rename_i k m;cases k<;>first|exact SR.halt _ (.stuck _) _ trivial|exact Zy rfl
def two_of {e d : Array Value} (h : AR G B e d) : (∃ a b c f, e = #[a, b] /\ d = #[c, f] /\ VR G B a c /\ VR G B b f) ∨ (e.size ≠ 2 /\ d.size ≠ 2) := by
  by_cases g : e.size = 2
  . left
    have j : d.size = 2 := h.size ▸ g
    obtain ⟨l⟩ := e
    obtain ⟨i⟩ := d
    match l, i, g, j with
    | [a, b], [c, f], _, _ => exact ⟨a, b, c, f, rfl, rfl, h.at_ 0 _ _ rfl rfl, h.at_ 1 _ _ rfl rfl⟩
  . exact .inr ⟨g, h.size ▸ g⟩
def PM{k d:Array Value} (h:AR G B k d):SR G (QV G) B (Extern.BytealgCount.count k) (Extern.BytealgCount.count d):=by
 rcases two_of h with⟨a,b,x,y,rfl,rfl,j,m⟩|⟨f,g⟩
 .unfold Extern.BytealgCount.count;refine ZI (mY j) fun r s f=>?_;refine ZI (yX (m.mono f)) fun v c g=>?_;exact Zy (eI _)
 .have e:∀i:Array Value,i.size≠2->Extern.BytealgCount.count i=stuck "bytealg.Count: two arguments expected":=by intro i p;obtain⟨l⟩:=i;match l,p with
   |[],_=>rfl|[_],_=>rfl|[_,_],h=>exact absurd rfl h|_::_::_::_,_=>rfl
  rw[e _ f,e _ g];exact SR.halt _ (.stuck _) _ trivial
def PN{k d:Array Value} (h:AR G B k d):SR G (QV G) B (Extern.BytealgIndexByte.indexByte k) (Extern.BytealgIndexByte.indexByte d):=by
 rcases two_of h with⟨a,b,x,y,rfl,rfl,j,m⟩|⟨f,g⟩
 .unfold Extern.BytealgIndexByte.indexByte;refine ZI (mY j) fun r s f=>?_;refine ZI (yX (m.mono f)) fun v c g=>?_;split<;>exact Zy (eI _)
 .have e:∀i:Array Value,i.size≠2->Extern.BytealgIndexByte.indexByte i=stuck "bytealg.IndexByte: two arguments expected":=by intro i p;obtain⟨l⟩:=i;match l,p with
   |[],_=>rfl|[_],_=>rfl|[_,_],h=>exact absurd rfl h|_::_::_::_,_=>rfl
  rw[e _ f,e _ g];exact SR.halt _ (.stuck _) _ trivial
def PO(s:∀g,G.P.globals.findIdx? (·.name== "internal/bytealg.MaxLen")=some g->G.glob g=true):SR G QE B Extern.BytealgIndex.maxLen Extern.BytealgIndex.maxLen:=by
 unfold Extern.BytealgIndex.maxLen globalAddr;refine .bij _ _ _ fun m=>?_;refine Za (Q:=fun B a f=>AddrR B a f) (Za aM fun j p F h x=>?_) fun j a f h r=>Za (jC r) fun A v H C y=>PD y;obtain⟨rfl,rfl⟩:=x;split;·rename_i g c;exact Zy (.mk _ _ _ _ (h _ _ (m.glob g (s g c))))
 .exact SR.halt _ (.stuck _) _ trivial
def PQ(v:∀g,G.P.globals.findIdx? (·.name== "internal/bytealg.MaxLen")=some g->G.glob g=true) {k d:Array Value} (h:AR G B k d):SR G (QV G) B (Extern.BytealgIndex.index k) (Extern.BytealgIndex.index d):=by
 rcases two_of h with⟨a,b,F,H,rfl,rfl,p,r⟩|⟨f,j⟩
 .unfold Extern.BytealgIndex.index;refine ZI (mY p) fun y s f=>?_;refine ZI (mY (r.mono f)) fun A c j=>?_;dsimp only;refine ZI (PO v) fun C m I=>?_;split;·exact SR.halt _ (.unsupported (.noEntry _)) _ trivial
  .split;·exact SR.halt _ (.unsupported (.noEntry _)) _ trivial
   .split<;>exact Zy (eI _)
 .have e:∀i:Array Value,i.size≠2->Extern.BytealgIndex.index i=stuck "bytealg.Index: two arguments expected":=by intro i x;obtain⟨l⟩:=i;match l,x with
   |[],_=>rfl|[_],_=>rfl|[_,_],h=>exact absurd rfl h|_::_::_::_,_=>rfl
  rw[e _ f,e _ j];exact SR.halt _ (.stuck _) _ trivial
end
end Go.Twin
namespace Go.Twin
open Go.Conc
open Go.ConcN (upd)
section
variable (E:Env)(W0:World)(J:Nat->Option Job)(U:Nat->Prop)(Ch:Option Nat)(Post:Value->World->Prop)(sh:Nat->Prop)(bs:List Frame)
structure Goes1 (n:Node):Prop where go:KGo E W0 J U Ch Post n
structure Turn1 (n:Node):Prop where go:eT E W0 J U Ch Post n
def gO(f:Frame)(cs:List Frame)(l:World):Prop:=∀n:Node,n.sh=sh->n.bs=bs->n.f=f->n.cs=cs->(∃t d,n.l=l.re t d)->Goes1 E W0 J U Ch Post n
structure StopK (f:Frame)(cs:List Frame)(l:World):Prop where
 deep:cs≠[]
 calm:∀c,f.mode≠.panicking c
 good:∀n:Node,n.sh=sh->n.bs=bs->n.f=f->n.cs=cs->(∃t d,n.l=l.re t d)->Turn1 E W0 J U Ch Post n
end
section
variable {E:Env} {W0:World} {J:Nat->Option Job} {U:Nat->Prop} {Ch:Option Nat} {Post:Value->World->Prop} {sh:Nat->Prop} {bs:List Frame}
def ZU:Halts (StopK E W0 J U Ch Post sh bs):=⟨fun f cs l h=>⟨h.deep,h.calm⟩,fun f cs l t d h=>⟨h.deep,h.calm,fun n g j m p ⟨s,c,r⟩=>h.good n g j m p ⟨s,c,r⟩⟩⟩
def lZ(r:E.Fine)(c:E.sh=true)(s:∀k j,J k=some j->dG E j) {f:Frame} {cs:List Frame} {l:World} (a:LG E (StopK E W0 J U Ch Post sh bs) f cs l):gO E W0 J U Ch Post sh bs f cs l:=by rintro n rfl rfl rfl rfl ⟨t,d,v⟩;refine⟨ON r c s (ZU (sh:=n.sh) (bs:=n.bs)) (by rw[v];exact a.re ZU t d) fun h m p x g=>?_⟩;exact(g.good h m p rfl rfl ⟨h.l.tape,h.l.drawn,rfl⟩).go
variable {b:Frame} {a:Act} {ops:Array Oper} {i:Nat} {rest:List Nat} {o:Oper} {k:List Item} {cs:List Frame} {l:World}
def pG{f:List Item}:∀c,(b.at a f).mode≠.panicking c:=fun c h=>by cases h
def PT(m:E.sh=true)(h:cs≠[])(p:ops[i]?=some o)(v:o.guard=none)(hrun:∀(a:Act) (w:World),(execOp a.eval o).run E.P w=.ok (.value (.chan (some w.heap.size))) (w.alloc (.chan 1 #[] false 0 0 false))) (j:∀(a:Act) (w:World),(execOp a.eval o).events E.P w #[]=#[])(A:∀c,W0.heap.size<=c->gO E W0 J U (some c) Post sh bs (b.at (a.put o.dst (.chan (some c))) (.inRegion ops rest::k)) cs l):StopK E W0 J U none Post sh bs (b.at a (.inRegion ops (i::rest)::k)) cs l:=by refine⟨h,pG,?_⟩;rintro n rfl rfl g rfl y;refine⟨OP m (fun r=>O4 (n:=n) (by rw[g];rfl) (by rw[g];rfl) (by rw[g];rfl) p v hrun j r) fun c s=>?_⟩;have x:=A c s {n with f:=n.f.finish (.chan (some c))} rfl rfl (by show n.f.finish _=_;rw[g,hW,p];rfl) rfl y;exact @x.go
def HQ(r:E.Fine)(m:E.sh=true)(s:∀k j,J k=some j->dG E j)(g:cs≠[]) {K:Nat} {j:Job} (y:0<K)(I:J K=some j)(C:U K)(F:∀v,j.V v->bH 8 v=true)(p:ops[i]?=some o)(H:o.guard=none) {x:Nat} {zz:Value} (e:a.tmps.getD x undef=.chan (some j.ch))(d:∀(ρ:Operand->Value)(w:World),(execOp ρ o).run E.P w=.ok (.comm #[{chan:=ρ (.tmp x),send:=none,zero:=zz}] true (.recv false)) w)(h:∀(ρ:Operand->Value)(w:World),(execOp ρ o).events E.P w #[]=#[])(Q:∀v,j.V v->gO E W0 J (fun x=>U x/\x≠K) none Post sh bs (b.at (a.put o.dst v) (.inRegion ops rest::k)) cs l):StopK E W0 J U none Post sh bs (b.at a (.inRegion ops (i::rest)::k)) cs l:=by refine⟨g,pG,?_⟩;rintro n rfl rfl c rfl N;refine⟨OO r m s y I C F (fun A=>O3 (n:=n) (by rw[c];rfl) (by rw[c];rfl) (by rw[c];rfl) p H (by rw[c];exact e) d h A) fun v O=>?_⟩;have L:=Q v O {n with f:=n.f.finish v} rfl rfl (by show n.f.finish _=_;rw[c,hW,p];rfl) rfl N;exact @L.go
def PU{S:Env} (p:SubG S E E)(I:E.junk=true)(Q:∀g,E.dark g=false)(H:E.sh=true)(r:E.free=true)(R:∀g,E.glob g=false)(N:cs≠[]) {X Y:Nat->Prop} {c F x:Nat} (O:E.dfr F=true) {V:Value->Prop} {fn:Func} {body:Code} {cap:Array Value} (D:ops[i]?=some o)(hg:o.guard=none)(hd:o.dst=none)(hx:a.tmps.getD x undef=.func (.func F) #[] cap)(hrun:∀(ρ:Operand->Value)(m:Array Value)(w:World),ρ (.tmp x)=.func (.func F) #[] m->(execOp ρ o).run E.P w=.ok (.spawn {target:=.fn (.func F) m,args:=#[]}) w/\(execOp ρ o).events E.P w #[]=#[])(hf:E.P.funcs[F]?=some fn)(e:fn.body=some body)(s:(fn.name== "runtime.NumGoroutine")=false)(G:aV body=true)(hcap:∀v∈cap,VR S (idX fun b=>X b∨Y b) v v)(z:∀b,X b->sh b)(u:hE S X l)(hY:∀b,Y b->∃c T f,l.heap[b]?=some (.cells c T f))(hL:LG E (fS E.P F c V) ((base F).at ⟨cap++Array.replicate (fn.ntmps-cap.size) undef,[]⟩ [.code body]) [ZH E.P] (sanW S (fun b=>X b∨Y b) Y l))(kk:∀K,0<K->J K=none->gO E W0 (upd J K (some ⟨c,V,[bot E.P],fS E.P F c V⟩)) (fun x=>U x∨x=K) none Post (fun b=>sh b∨Y b) bs (b.at (a.put o.dst undef) (.inRegion ops rest::k)) cs (sanW S (fun b=>X b∨Y b) Y l)):StopK E W0 J U (some c) Post sh bs (b.at a (.inRegion ops (i::rest)::k)) cs l:=by
 refine⟨N,pG,?_⟩;rintro n rfl rfl h rfl ⟨t,d,Z⟩;have y:∀b,Y b->∃c T f,n.l.heap[b]?=some (.cells c T f):=fun b e=>by rw[Z];exact hY b e
 have A:hE S X n.l:=fun b e=>by rw[Z];exact u b e
 refine⟨@OU E W0 J U (some c) Post n {n with sh:=fun b=>n.sh b∨Y b,l:=sanW S (fun b=>X b∨Y b) Y n.l} (fun L=>PF (X:=X) p I H y L) (fun W x e=>⟨W,e,.inl⟩) ?_⟩;have C:sanW S (fun b=>X b∨Y b) Y n.l=(sanW S (fun b=>X b∨Y b) Y l).re t d:=by rw[Z];rfl
 intro M S0 gs w sl t0 q fa ca j;refine OQ (n:={ n with sh:=fun b=>n.sh b∨Y b,l:=sanW S (fun b=>X b∨Y b) Y n.l }) (jb:=⟨c,V,[bot E.P],fS E.P F c V⟩) rfl (nK:=⟨fun b=>X b∨Y b,[bot E.P],n.B.on fun b=>X b∨Y b,(base F).at ⟨cap++Array.replicate (fn.ntmps-cap.size) undef,[]⟩ [.code body],[ZH E.P],sanW S (fun b=>X b∨Y b) Y n.l,fS E.P F c V⟩) rfl rfl (uR _ _ _ _)
  (by rw[C];exact hL.re (uR _ _ _ _) t d) (fun b x e=>⟨e.2,b,e.1,e.2.imp (z b) id⟩) (fun L=>?_) (fun K h1 h2=>?_) j;·exact O6 (S:=S) (n:={n with sh:=fun b=>n.sh b∨Y b,l:=sanW S (fun b=>X b∨Y b) Y n.l}) p Q H r R O (by rw[h];rfl) (by rw[h];rfl) (by rw[h];rfl) D hg hd (by rw[h];exact hx) hrun hf e s G hcap (fun b e=>e.imp (z b) id) (uT A y) L
 .have hk:=kk K h1 h2 {n with sh:=fun b=>n.sh b∨Y b,l:=sanW S (fun b=>X b∨Y b) Y n.l,f:=n.f.finish undef} rfl rfl (by show n.f.finish _=_;rw[h,hW,D];rfl) rfl ⟨t,d,C⟩;exact @hk.go
inductive Forget:List Value->List Value->Prop|nil:Forget [] []|keep (v:Value) (l l':List Value) (h:Forget l l'):Forget (v::l) (v::l')|drop (v:Value) (l l':List Value) (hb:bare v=true) (h:Forget l l'):Forget (v::l) (undef::l')
def FG:∀{l d:List Value},Forget l d->d.length=l.length/\∀(i:Nat) v,d[i]?=some v->l[i]?=some v∨(v=undef/\∃u,l[i]?=some u/\bare u=true)
 |_,_,.nil=>⟨rfl,fun i v h=>by simp at h⟩|_,_,.keep v l d h=>by obtain⟨f,g⟩:=FG h;refine⟨by simp[f],fun i u c=>?_⟩;cases i with
  |zero=>exact .inl c|succ i=>exact g i u c
 |_,_,.drop v l d hb h=>by obtain⟨f,g⟩:=FG h;refine⟨by simp[f],fun i u c=>?_⟩;cases i with|zero=>cases c;exact .inr ⟨rfl,v,rfl,hb⟩|succ i=>exact g i u c
def PV(r:E.junk=true) {a':Act} {m:List Item} (e:a'.defers=a.defers)(s:a'.tmps.size=a.tmps.size)(q:∀(i:Nat) v,a'.tmps[i]?=some v->a.tmps[i]?=some v∨(v=undef/\∃u,a.tmps[i]?=some u/\bare u=true))(h:gO E W0 J U Ch Post sh bs (b.at a' m) cs l):gO E W0 J U Ch Post sh bs (b.at a m) cs l:=by
 rintro n rfl rfl A rfl K;have I:=h {n with f:=b.at a' m} rfl rfl rfl rfl K;refine⟨@OT E W0 J U Ch Post n {n with f:=b.at a' m} (fun {d t w} j=>?_) (fun C x H=>⟨C,H,id⟩) @I.go⟩;refine⟨?_,j.wr,j.low⟩;have hF:=j.st.head;rw[A]at hF;have c:=j.st;rw[A]at c;refine c.top ⟨hF.fn,⟨s.trans hF.tmps.size,fun i v y L g=>?_⟩,hF.todo,?_,hF.mode,hF.kind,hF.round⟩ (Blk.le_refl _) rfl rfl
 .rcases q i v L with p|⟨rfl,u,p,F⟩;·exact hF.tmps.at_ i v y p g
  .exact .junk y r (by rw[<-(hF.tmps.at_ i u y p g).bare];exact F)
 .show DR n.B a'.defers d.defers;rw[e];exact hF.defers
def PW (c:E.junk=true) {d xs':List Value} {f:List Item} (e:Forget d xs') (h:gO E W0 J U Ch Post sh bs (b.at ⟨xs'.toArray,[]⟩ f) cs l):gO E W0 J U Ch Post sh bs (b.at ⟨d.toArray,[]⟩ f) cs l:=PV (a:=⟨d.toArray,[]⟩) (a':=⟨xs'.toArray,[]⟩) c rfl (by simpa using (FG e).1) (fun i v g=>by simpa using (FG e).2 i v (by simpa using g)) h
end
def aG{α:Type} (s:Sem α):Prop:=∀P w a b,s.run P w=.ok a b->b=w
section
variable {α β:Type}
def cZ(a:α):aG (Pure.pure a:Sem α):=fun P w b c h=>by cases h;rfl
def pH(h:Halt):aG (.halt h:Sem α):=fun P w b a h=>by cases h
def eG{s:Sem α} {f:α->Sem β} (h:aG s)(d:∀a,aG (f a)):aG (s>>=f):=fun P w b e c=>by rw[aB]at c;cases g:s.run P w with|halt x w1=>rw[g]at c;cases c|ok a w1=>rw[g]at c;have:=h P w a w1 g;subst this;exact d a P w1 b e c
def yY:aG Go.program:=fun P w b a h=>by cases h;rfl
def yZ(a:Addr):aG (load a):=fun P w b c h=>by
 unfold load at h;simp only[Sem.run]at h;split at h;·cases h;rfl
 .split at h;·cases h;rfl
  .cases h
def PX(t:TypeId):aG (underlying t):=eG yY fun P=>by split<;>first|exact cZ _|exact pH _
def PY(t:TypeId):aG (typeInfo t):=eG yY fun P=>by split<;>first|exact cZ _|exact pH _
def PZ(t:TypeId):aG (sizeOf t):=eG (PY t) fun _=>cZ _
def P4(t:TypeId):aG (isAgg t):=eG (PX t) fun d=>by split<;>exact cZ _
def HR(a:Addr):∀(n i:Nat)(c:Array Value),aG (loadCellsFrom a i n c)|0,i,c=>cZ _|n+1,i,c=>by unfold loadCellsFrom;exact eG (yZ _) fun v=>HR a n _ _
def P5(t:TypeId)(a:Addr):aG (loadVar t a):=by
 unfold loadVar;refine eG (P4 t) fun b=>?_;split;·exact eG (PZ t) fun n=>eG (HR a n 0 #[]) fun c=>cZ _
 .exact yZ _
def P6(v:Value):aG (asAddr v):=by unfold asAddr;split<;>first|exact cZ _|exact pH _|(intro P w b a h;simp[runtimePanic,Sem.run]at h)
def y7(fn:Func)(t:Array Value):aG (results fn t):=by
 unfold results;simp only[oM];have f:∀(c:List ResultVar),aG (c.mapM fun|.tmp g=>Pure.pure (t.getD g undef)|.cell a ty=>do loadVar ty (<-asAddr (t.getD a undef))):=by intro c;induction c with|nil=>simp only[eZ];exact cZ _|cons r c ih=>simp only[eY];refine eG ?_ fun v=>eG ih fun h=>cZ _;cases r with
   |tmp g=>exact cZ _|cell a ty=>exact eG (P6 _) fun x=>P5 _ _
 refine eG (eG (f _) fun a=>cZ _) fun h=>?_;split<;>exact cZ _
end
section
variable {E:Env} {W0:World} {J:Nat->Option Job} {U:Nat->Prop} {Ch:Option Nat} {Post:Value->World->Prop} {sh:Nat->Prop} {bs:List Frame}
def uU{B:Blk} {f a c:Frame} {b cb:List Frame} {l w:World} {R:Value->World->Prop} (H:a.kind=.normal)(k:Rel E sh (c::b) B f [ZH E.P] l a cb w)(n:Ret E.P R f [ZH E.P] l):∃v s N A t d,R v (l.re t d)/\VR E A v s/\cb=c::b/\stepG E.P true (G a (c::b)) w=.go (G (c.finish s) b) w N/\∀e∈N,EvL (fun _=>False) w.heap.size e:=by have K:=k.st;cases K with
 |cons _ _ _ _ _ _ hs=>cases hs with|cons _ _ _ _ _ _ h=>cases h
 |last _ _ hF hrd=>
  obtain⟨_,v,t,d,o,u⟩:=n;obtain⟨q,V,M,C,I,g⟩:=o;have z:WR E ⟨sh,fun _=>False⟩ B (l.re t d) w:=k.wr.retape rfl rfl rfl fun _ _ x=>x.elim;have Q:=(k6 C hF.tmps).both z k.low (by rw[g];exact fun j y F=>absurd F (dS.2 y));rw[g]at Q;obtain⟨A,s,D,L,y,F,O,T⟩:=Q;have:=y7 C a.tmps E.P w s D y;subst this;have m:a.mode=.returning:=by
   rcases hF.mode with⟨x,_⟩|⟨_,x⟩;·rw[q]at x;cases x
   .exact x
  have p:a.defers=[]:=by have:=hF.defers;rw[V]at this;generalize a.defers=x at this |-;cases this;rfl
  have r:E.P.funcs[a.fn]?=some C:=by rw[<-hF.fn];exact I
  refine⟨v,s,seen E.P a.fn L,A,t,d,u,T,rfl,?_,fun e Z=>oZ O.wr (O.ev e (gM Z))⟩;simp[G,stepG,unwind,doReturn,m,p,H,r,y,F,GStep.after]
def P7{R:Value->World->Prop} {R':Value->Prop} {c:Frame} {a:List Frame} {f:Frame} {l:World} (C:E.dfr f.fn=false)(z:Ret E.P R f [ZH E.P] l)(hU:∀x,0<x->¬U x)(hR:∀v t d,R v (l.re t d)->cP 8 v=true/\R' v)(y:bs=c::a)(k:∀{v:Value} {e:World} {m:Array Goroutine} {b:Option (Nat×Nat)} {N:Trace} {q':Nat->Nat},R' v->Kept1 W0 e->m[0]?=some (G (c.finish v) a)->Leavers E.P N m q'->Past (fun _=>False) e.heap.size N->Fin E.P Post m e b N):StopK E W0 J U Ch Post sh bs f [ZH E.P] l:=by
 refine⟨Qd,fun ch O=>?_,?_⟩;·obtain⟨_,v,t,d,H,_⟩:=z;rw[H.1]at O;cases O
 rintro n rfl rfl rfl A ⟨t0,d0,H⟩;refine⟨OX (fun {w S sl t q o cb} s W Y j L p h=>?_) hU⟩;rw[A,H]at j;have g:=Rel.re' j;have F:o.kind=.normal:=g.st.head.kind.2.resolve_right fun x=>(by have:=x.1;rw[C]at this;cases this);rw[y]at g;obtain⟨v,v',T,B',t1,Q,V,Z,rfl,D,M⟩:=uU F g z;obtain⟨s1,s2⟩:=hR v t1 Q V;obtain rfl:=Zi 8 s1 Z;have K:stepG E.P (0==0) (G o (c::a)) w=_:=D;have r:=K3 (P:=E.P) (sl:=sl) (i:=0) s K;have I:0<S.size:=(bP.1 s).1;exact⟨_,_,_,_,r,k s2 ⟨L,p,h.1,h.2.1⟩ (by simp[I]) (xX s W _ _ T) (Y.own M)⟩
end
end Go.Twin
namespace Go.Twin
open Go.Conc
variable {P:Program} {Post:Value->World->Prop} {gs:Array Goroutine} {w:World} {sl:Option (Nat×Nat)} {t:Trace}
def P8{c:Array Goroutine} {b:World} {a:Option (Nat×Nat)} {g:Trace} {N:Nat} (h:runNT P N (crowd gs w sl) t=(.next (crowd c b a),g))(d:Fin P Post c b a g):Fin P Post gs w sl t:=by
 obtain⟨M,f,o,e,s,j,m,p,r⟩:=d;refine⟨N+M,f,o,e,s,?_,?_,p,r⟩;·rw[iD,runNT_add,h];exact j
 .rw[runN_add,<-runNT_fst P _ _ t,h];exact m
def y8{n fb:Frame} {l cb:List Frame} {q:Nat->Nat} (z:gs[0]?=some (G n l))(E:Leavers P t gs q)(A:Past (fun _=>False) w.heap.size t)(o:∀d,∃f,stepG P true (G n l) (w.at d)=.go (G fb cb) (w.at d) f/\∀e∈f,EvL (fun _=>False) w.heap.size e)(k:∀{c:Array Goroutine} {i:Option (Nat×Nat)} {j:Trace} {p:Nat->Nat} (d:Nat),c[0]?=some (G fb cb)->Leavers P j c p->Past (fun _=>False) (w.at d).heap.size j->Fin P Post c (w.at d) i j):Fin P Post gs w sl t:=by obtain⟨N,c,F,u,i,j,p,m,_,v,⟨rfl,d,rfl⟩,x,y⟩:=walk_beside (P:=P) (Shun:=fun _=>False) (B:=w.heap.size) (D:=fun _ _ f=>∀e∈f,EvL (fun _=>False) w.heap.size e) (Stop:=fun g u=>g=G fb cb/\∃d,u=w.at d) (fun _ _ _ h=>h) _ 1 gs (G n l) w sl t q (r3 _) z E A (by refine .inr ⟨rfl,fun H C=>?_⟩;obtain⟨d,rfl⟩:=C;obtain⟨f,m,s⟩:=o d;rw[m,goes_go];refine⟨s,?_⟩;rintro I ⟨r,rfl⟩;exact⟨rfl,r,rfl⟩);exact P8 m (k d v x y)
section
variable {E:Env} {Post:Value->World->Prop} {W l0:World} {OldB:Blk} {sh:Nat->Prop}
def P'{R:Value->World->Prop} {u:Value} {c:Frame} {a:List Frame} {f:Frame} {l:World} (A:E.dfr f.fn=false)(b:Ret E.P R f [ZH E.P] l)(D:∀v t d,R v (l.re t d)->v=u)(M:cP 8 u=true)(j:∀x,x<l0.heap.size->l.heap[x]?=l0.heap[x]?)(k:∀{i:World} {h:Array Goroutine} {e:Option (Nat×Nat)} {C:Trace} {S:Nat->Nat},Kept1 W i->h[0]?=some (G (c.finish u) a)->Leavers E.P C h S->Past (fun _=>False) i.heap.size C->Fin E.P Post h i e C):StopG E Post W l0 OldB sh (c::a) f [ZH E.P] l:=by
 refine⟨Qd,fun X O=>?_,j,?_⟩;·obtain⟨_,v,t,d,J,_⟩:=b;rw[J.1]at O;cases O
 intro B n cb w gs sl t q Z o z g p;have m:n.kind=.normal:=g.st.head.kind.2.resolve_right fun x=>(by have:=x.1;rw[A]at this;cases this);obtain rfl:cb=c::a:=by obtain⟨v,U,H,T,Q,F,I,K,V,L,N⟩:=uU m g b;exact V
 refine y8 (fb:=c.finish u) (cb:=a) Z o z (fun d=>?_) fun d r s y=>k ⟨p.kept.size,p.kept.heap,p.kept.os,p.kept.output⟩ r s y;obtain⟨v,U,H,T,Q,F,I,K,_,L,N⟩:=uU m (g.at_ d) b;obtain rfl:=D v Q F I;obtain rfl:=Zi 8 M K;exact⟨H,L,N⟩
end
section
variable {S:Env} {X D:Nat->Prop}
def EW(S:Env)(X:Nat->Prop) {v:Value} (a:bare v=true):∃u,VR S (idX X) u u/\(VR S (idX X) v v->u=v)/\∀(E:Env),Sub S E->E.junk=true->VR E (idX X) u v:=by
 by_cases c:VR S (idX X) v v;·exact⟨v,c,fun _=>rfl,fun E g f=>g.vr c⟩
 .exact⟨.tuple #[],undefR,fun h=>absurd h c,fun E g f=>.junk v f a⟩
def R4(S:Env)(X:Nat->Prop):∀(v:Value),∃u,VR S (idX X) u u/\(VR S (idX X) v v->u=v)/\∀(E:Env),Sub S E->E.junk=true->VR E (idX X) u v
 |.iface t v=>by obtain⟨u,g,f,K⟩:=R4 S X v;refine⟨.iface t u,.iface _ _ _ g,fun h=>?_,fun E p m=>.iface _ _ _ (K E p m)⟩;cases h with|iface _ _ _ h4=>rw[f h4]
 |.agg xs=>by
  have A:∀i:_root_.Fin xs.size,∃u,VR S (idX X) u u/\(VR S (idX X) xs[i] xs[i]->u=xs[i])/\∀(E:Env),Sub S E->E.junk=true->VR E (idX X) u xs[i]:=fun i=>R4 S X xs[i];have x:(Array.ofFn fun i=>(A i).choose).size=xs.size:=Qd
  have j:∀(i:Nat)(u:Value),(Array.ofFn fun i=>(A i).choose)[i]?=some u->∃v,xs[i]?=some v/\VR S (idX X) u u/\(VR S (idX X) v v->u=v)/\∀(E:Env),Sub S E->E.junk=true->VR E (idX X) u v:=by
   intro i u y;rw[yB]at y;split at y;·rename_i H;cases y;exact⟨xs[i],y1 H,(A ⟨i,H⟩).choose_spec⟩
   .cases y
  refine⟨.agg (Array.ofFn fun i=>(A i).choose),.agg _ _ rfl fun i u L g f=>?_,fun h=>?_,fun E p m=>?_⟩;·rw[g]at f;cases f;obtain⟨v,r,C,_⟩:=j i u g;exact C
  .cases h with|agg _ _ _ h4=>congr 1;refine iU x fun i g f=>?_;obtain⟨v,r,C,F,_⟩:=j i _ (y1 g);rw[y1 f]at r;cases r;exact F (h4 i _ _ (y1 f) (y1 f))
  .refine .agg _ _ x fun i u N g f=>?_;obtain⟨v,r,C,F,I⟩:=j i u g;rw[f]at r;cases r;exact I E p m|.bool b=>⟨.bool b,.bool b,fun _=>rfl,fun E p m=>.bool b⟩|.int k n=>⟨.int k n,.int k n,fun _=>rfl,fun E p m=>.int k n⟩|.string s=>⟨.string s,.string s,fun _=>rfl,fun E p m=>.string s⟩|.nilIface=>⟨.nilIface,.nilIface,fun _=>rfl,fun E p m=>.nilIface⟩|.float a b=>EW S X rfl|.complex a b c=>EW S X rfl|.pointer a=>EW S X rfl|.slice a b c=>EW S X rfl|.map a=>EW S X rfl|.chan a=>EW S X rfl|.func a b c=>EW S X rfl|.nilFunc=>EW S X rfl|.tuple a=>EW S X rfl termination_by v=>SizeOf.sizeOf v decreasing_by
 .simp_wf;omega
 .have:=yC xs i.1 i.2;simp_wf;have e:SizeOf.sizeOf xs[i]=SizeOf.sizeOf xs[i.1]:=rfl;omega
noncomputable def clean(S:Env)(X:Nat->Prop)(v:Value):Value:=(R4 S X v).choose
def QC(S:Env) (X:Nat->Prop) (v:Value):VR S (idX X) (clean S X v) (clean S X v):=(R4 S X v).choose_spec.1
def QD{v:Value} (h:VR S (idX X) v v):clean S X v=v:=(R4 S X v).choose_spec.2.1 h
def QF{E:Env} (a:Sub S E) (c:E.junk=true) (v:Value):VR E (idX X) (clean S X v) v:=(R4 S X v).choose_spec.2.2 E a c
def aZ(D:Nat->Prop)(w:World)(b:Nat):Prop:=(∃c T f,w.heap[b]?=some (.cells c T f))/\¬D b
noncomputable def y9(S:Env)(X:Nat->Prop)(o:Obj):Obj:=match o with|.cells c T _=>.cells (c.map (clean S X)) T (0,c.size+1)|o=>o
open Classical in noncomputable def bY(S:Env)(D:Nat->Prop)(w:World):World:={w with heap:=w.heap.mapIdx fun b o=>if D b then .deferred none else y9 S (aZ D w) o}
def F4{w:World}:(bY S D w).heap.size=w.heap.size:=by simp[bY]
def mZ{w:World} {b:Nat} (h:¬D b) {c:Array Value} {T:TypeId} {f:Nat×Nat} (g:w.heap[b]?=some (.cells c T f)):(bY S D w).heap[b]?=some (.cells (c.map (clean S (aZ D w))) T (0,(c.map (clean S (aZ D w))).size+1)):=by simp only[bY,l4,g];simp[h,y9]
def zB{w:World} {b:Nat} (h:D b)(a:b<w.heap.size):(bY S D w).heap[b]?=some (.deferred none):=by simp only[bY,l4,y1 a];simp[h]
def QG{w:World} {a:Addr} {v:Value} (d:¬D a.block)(b:w.cell? a=some v)(h:VR S (idX (aZ D w)) v v):(bY S D w).cell? a=some v:=by cases g:w.heap[a.block]? with|none=>simp[World.cell?,g]at b|some o=>cases o with
  |cells c T f=>
   simp only[World.cell?,g]at b;simp only[World.cell?,mZ d g];split at b;·cases b
   .rename_i j;rw[q' j,aJ,b,hD,QD h]|_=>simp[World.cell?,g]at b
def QH{E:Env} (a:Sub S E)(K:E.junk=true)(C:E.sh=true) {w:World} (A:∀g,E.glob g=true->aZ D w g)(j:∀g,E.dark g=true->D g/\g<w.heap.size)(s:E.P.globals.size<=w.heap.size):WR E ⟨aZ D w,fun _=>False⟩ (idX (aZ D w)) (bY S D w) w:=by
 have r:∀b,aZ D w b->b<w.heap.size:=fun b h=>by obtain⟨⟨_,_,_,h⟩,_⟩:=h;exact(bP.1 h).1
 refine⟨fun b m Q x y=>x.1.symm.trans y.1,fun b c m x y=>x.1.trans y.1.symm,fun b m x=>?_,fun b m x N=>absurd x.2 N,fun b m x R=>?_,fun _ _ x=>x.elim,fun g p=>⟨rfl,A g p⟩,fun b m x=>by rw[x.1],⟨by rw[F4];exact s,s⟩,fun h=>(by rw[C]at h;cases h),fun g p=>⟨zB (j g p).1 (j g p).2,fun m x=>x.2.2 (j g p).1⟩⟩;·obtain⟨rfl,v⟩:=x;rw[F4];exact⟨r b v,r b v⟩
 .obtain⟨rfl,v⟩:=x;obtain⟨⟨c,T,f,H⟩,L⟩:=id v;refine⟨_,c,T,f,mZ L H,H,⟨Qd,fun i u O I F=>?_⟩⟩;rw[aJ,F,hD]at I;cases I;exact QF a K O
def QI(H:S.sh=true) {w:World} (F:∀g,S.glob g=true->aZ D w g) (m:∀g,S.dark g=true->D g/\g<w.heap.size) (s:S.P.globals.size<=w.heap.size):Self S (aZ D w) (idX (aZ D w)) (bY S D w):=by
 have p:∀b,aZ D w b->b<w.heap.size:=fun b h=>by obtain⟨⟨_,_,_,h⟩,_⟩:=h;exact(bP.1 h).1
 refine⟨⟨fun b j Q x y=>x.1.symm.trans y.1,fun b c j x y=>x.1.trans y.1.symm,fun b j x=>?_,fun b j x O=>absurd x.2 O,fun b j x K=>?_,fun _ _ _=>rfl,fun g r=>⟨rfl,F g r⟩,fun b j x=>by rw[x.1],⟨by rw[F4];exact s,by rw[F4];exact s⟩,fun h=>(by rw[H]at h;cases h),fun g r=>⟨zB (m g r).1 (m g r).2,fun j x=>x.2.2 (m g r).1⟩⟩,fun b K=>by rw[F4];exact p b K,fun b j x=>x.1⟩;·obtain⟨rfl,C⟩:=x;rw[F4];exact⟨p b C,p b C⟩
 .obtain⟨rfl,C⟩:=x;obtain⟨⟨c,T,f,L⟩,N⟩:=id C;refine⟨_,_,T,_,mZ N L,mZ N L,⟨rfl,fun i u V I A=>?_⟩⟩;rw[I]at A;cases A;rw[aJ]at I;obtain⟨v,R,rfl⟩:=n2.1 I;exact QC S _ v
end
section
variable {E:Env} {Post:Value->World->Prop} {W l0:World} {OldB:Blk} {sh:Nat->Prop} {bs':List Frame}
def QJ(hG:E.Fine)(H:∀b x,OldB b x->sh b∨(b=x/\x<l0.heap.size/\l0.heap[x]?=W.heap[x]?/\E.sh=false/\E.junk=false)) {b:Frame} {a:Act} {k:List Item} {cs:List Frame} {z:Array Oper} {i:Nat} {rest:List Nat} {o:Oper} {g:FuncId} {l:World} {R:Value->Prop} (Q:cs≠[])(Y:z[i]?=some o)(hg:o.guard=none)(M:∀(a:Act)(w:World),(execOp a.eval o).run E.P w=.ok (.enter g #[]) w)(T:∀(a:Act)(w:World),(execOp a.eval o).events E.P w #[]=#[])(p:∀x,x<l0.heap.size->l.heap[x]?=l0.heap[x]?)(V:∀{w:World},Kept1 W w->dV E.P (Frame.enter E.P g #[] .normal) w R)(hR:∀v,R v->bH 8 v=true)(kk:∀v n,R v->LG E (StopG E Post W l0 OldB sh bs') (b.at (a.put o.dst v) (.inRegion z rest::k)) cs (pad l n)):StopG E Post W l0 OldB sh bs' ((b.at a (.inRegion z (i::rest)::k))) cs l:=by
 refine⟨Q,fun c h=>(by cases h),p,?_⟩;intro B J U w gs sl t q h0 N hP f A;have hF:=f.st.head;obtain⟨k',e,hk⟩:=hF.oper rfl rfl rfl;have aA:Region.wanted o (yielded z (⟨J.tmps,J.defers⟩:Act).tmps)=true:=by unfold Region.wanted;rw[hg]
 have r:∀d,∃X,stepG E.P true (G J U) (w.at d)=.go (G (Frame.enter E.P g #[] .normal) (J::U)) (w.at d) X/\∀e∈X,EvL (fun _=>False) w.heap.size e:=by intro d;have K:=stepG_enter (P:=E.P) (main:=true) (b:=J) (a:=⟨J.tmps,J.defers⟩) (k:=k') (rest:=rest) (cs:=U) (w:=w.at d) Y aA hF.noEarly (M _ _);rw[<-e]at K;rw[listed_nil (T _ _)]at K;exact⟨_,K,fun e he=>by simp at he⟩
 refine y8 (fb:=Frame.enter E.P g #[] .normal) (cb:=J::U) h0 N hP r fun {aC aF t1 q1} d I L O=>?_;have F:Kept1 W (w.at d):=⟨A.kept.size,A.kept.heap,A.kept.os,A.kept.output⟩;refine V F I L O fun {v w' aB aE t' q'} hv j s y C=>?_;have Z:=f.st;have aD:=j;refine Jx hG H (kk v (w'.heap.size-w.heap.size) hv) s y C ⟨?_,yO (w:=w) ⟨j.size,j.heap,j.os,j.output⟩ (fun hs=>?_) (fun i h=>h) f.wr,fun b hb=>?_⟩ ⟨F.trans j,A.old⟩;·have m:=hF.finish (VR.closed (G:=E) (B:=B) 8 v (hR v hv));rw[hW,Y]at m;exact Z.top m (Blk.le_refl _) rfl
 .have:=(f.wr.sh hs).2.1;have:w.heap.size<=w'.heap.size:=j.size;omega
 .rw[eL];have:=f.low b hb;omega
def HS{B:Blk} {f a:Frame} {i:List Frame} {l w:World} {R:Value->World->Prop} (F:a.kind=.normal)(o:E.P.inits.idxOf? a.fn=none)(b:Rel E sh [] B f [ZH E.P] l a i w)(k:Ret E.P R f [ZH E.P] l):∃v r L y t d,R v (l.re t d)/\VR E y v r/\i=[]/\stepG E.P true (G a []) w=.ended (.done r) w L/\∀e∈L,EvL (fun _=>False) w.heap.size e:=by have I:=b.st;cases I with
 |cons _ _ _ _ _ _ hs=>cases hs with|cons _ _ _ _ _ _ h=>cases h
 |last _ _ hF hrd=>
  obtain⟨_,v,t,d,Z,u⟩:=k;obtain⟨q,T,M,A,H,c⟩:=Z;have z:WR E ⟨sh,fun _=>False⟩ B (l.re t d) w:=b.wr.retape rfl rfl rfl fun _ _ x=>x.elim;have O:=(k6 A hF.tmps).both z b.low (by rw[c];exact fun j s C=>absurd C (dS.2 s));rw[c]at O;obtain⟨y,r,J,K,s,C,N,Q⟩:=O;have:=y7 A a.tmps E.P w r J s;subst this;have g:a.mode=.returning:=by
   rcases hF.mode with⟨x,_⟩|⟨_,x⟩;·rw[q]at x;cases x
   .exact x
  have m:a.defers=[]:=by have:=hF.defers;rw[T]at this;generalize a.defers=x at this |-;cases this;rfl
  have p:E.P.funcs[a.fn]?=some A:=by rw[<-hF.fn];exact H
  refine⟨v,r,seen E.P a.fn K,y,t,d,u,Q,rfl,?_,fun e V=>oZ N.wr (N.ev e (gM V))⟩;simp[G,stepG,unwind,doReturn,g,m,F,p,s,C,o,GStep.after]
def QK{R:Value->World->Prop} {u:Value} {f:Frame} {l:World} (r:E.dfr f.fn=false)(z:E.P.inits.idxOf? f.fn=none)(b:Ret E.P R f [ZH E.P] l)(o:∀v t d,R v (l.re t d)->v=u)(G:cP 8 u=true)(g:∀x,x<l0.heap.size->l.heap[x]?=l0.heap[x]?)(k:∀i,Kept1 W i->Post u i):StopG E Post W l0 OldB sh [] f [ZH E.P] l:=by
 refine⟨Qd,fun M I=>?_,g,?_⟩;·obtain⟨_,v,t,d,Z,_⟩:=b;rw[Z.1]at I;cases I
 intro B e N w gs sl t q Q T V c p;have hF:=c.st.head;have m:e.kind=.normal:=hF.kind.2.resolve_right fun x=>(by have:=x.1;rw[r]at this;cases this);have j:E.P.inits.idxOf? e.fn=none:=by rw[<-hF.fn];exact z
 obtain rfl:N=[]:=by obtain⟨v,J,y,L,K,s,A,C,O,F,H⟩:=HS m j c b;exact O
 refine beside_ends (D:=fun _ _ _=>False) (n:=0) (fun _ _ _ h=>h.elim) Q T V ?_;rintro U ⟨d,rfl⟩;obtain⟨v,J,y,L,K,s,A,C,_,F,H⟩:=HS m j (c.at_ d) b;obtain rfl:=o v K s A;obtain rfl:=Zi 8 G C;exact⟨rfl,_,y,F,H,k _ ⟨p.kept.size,p.kept.heap,p.kept.os,p.kept.output⟩⟩
end
section
variable {S E:Env} {D:Nat->Prop} {Post:Value->World->Prop}
def QL(y:E.Fine)(n:Sub S E)(A:E.junk=true)(r:E.sh=true)(c:E.free=true) {F:Nat} {fn:Func} {i:Code} {d:Array Value} {W:World} (l:E.P.funcs[F]?=some fn)(k:fn.body=some i)(H:aV i=true)(p:∀g,E.glob g=true->aZ D W g)(m:∀g,E.dark g=true->D g/\g<W.heap.size)(s:E.P.globals.size<=W.heap.size)(z:AR S (idX (aZ D W)) d d)(o:LG E (StopG E Post W (bY S D W) (idX (aZ D W)) (aZ D W) []) (Frame.enter E.P F d .normal) [ZH E.P] (bY S D W)):Fin E.P Post #[G (Frame.enter E.P F d .normal) []] W none #[]:=by
 refine PH fun {gs sl t q} v j C=>?_;refine Jx y (fun b x k=>.inl k.2) o v j C (B:=idX (aZ D W)) ⟨?_,QH n A r p m s,fun b k=>?_⟩ ⟨Kept1.refl W,fun b x k _=>k⟩
 .have e:(Frame.enter E.P F d .normal).tmps=d++Array.replicate (fn.ntmps-d.size) undef:=by simp[Frame.enter,l]
  refine .last _ _ ⟨rfl,?_,?_,?_,.inl ⟨rfl,rfl⟩,⟨rfl,.inl rfl⟩,.inl ⟨rfl,rfl⟩⟩ rfl;·rw[e];exact(n.ar z).append (AR.replicate _ undefR)
  .have e:(Frame.enter E.P F d .normal).todo=[.code i]:=by simp[Frame.enter,l,k]
   rw[e];exact .cons _ _ _ _ (.code _ ⟨H,fun f=>by rw[c]at f;cases f⟩) .nil
  .exact .nil
 .obtain⟨⟨_,_,_,h⟩,_⟩:=k;rw[F4];exact(bP.1 h).1
end
end Go.Twin
namespace Go.Proofs
open Go.Twin
def gW:List Nat:=[35,38,59,86,50,57,61,62,63,68,58,79,85,102,103,112,113,69]
noncomputable def EnvS:Env:={P:=Tryz.prog,good:=fun f=>gW.contains f,glob:=fun _=>false,sh:=true,free:=false,junk:=false,nn:=true,dfr:=fun _=>false,dark:=fun _=>false,tab:=.refuse "#"}
def tH:Strict EnvS:=⟨rfl,rfl,fun _=>rfl,rfl⟩
def HT(E:Env)(f:Nat):Bool:=match E.P.funcs[f]? with| some fn => (fn.name != "runtime.NumGoroutine") && (match fn.body with | some c => E.code c | none => false)|none=>true
def pI(E:Env)(l:List Nat)(x:∀f,E.good f=l.contains f)(h:l.all (HT E)=true)(y:E.junk=false):E.Fine:=by
 have r:∀f fn,E.good f=true->E.P.funcs[f]?=some fn->(fn.name== "runtime.NumGoroutine")=false/\∃c,fn.body=some c/\E.code c=true:=by intro f fn p g;rw[x]at p;have j:=bK.1 h f (by simpa using p);unfold HT at j;rw[g]at j;simp only[aY]at j;refine⟨by simpa using j.1,?_⟩;cases m:fn.body with|none=>rw[m]at j;exact absurd j.2 Qd|some c=>rw[m]at j;exact⟨c,rfl,j.2⟩
 refine⟨fun _ f fn c p g m=>?_,fun f fn c p g m=>?_,fun h=>(by rw[y]at h;cases h),fun f fn p g=>(r f fn p g).1,fun f fn p g m=>?_,fun f fn e p g m=>?_⟩;·obtain⟨_,v,j,s⟩:=r f fn p g;rw[m]at j;cases j;exact s
 .obtain⟨_,v,j,s⟩:=r f fn p g;rw[m]at j;cases j;exact D8 c s
 .obtain⟨_,v,j,s⟩:=r f fn p g;rw[j]at m;cases m
 .obtain⟨_,v,j,s⟩:=r f fn p g;rw[j]at m;cases m
def tI:EnvS.Fine:=pI EnvS gW (fun _=>rfl) Qb rfl
noncomputable def S0:Env:=EnvS.wide EnvS.good false (.refuse "#")
def HU:S0.Fine:=pI S0 gW (fun _=>rfl) Qb rfl
def nA:List Nat:=gW++[66,67]
noncomputable def cV:Env:={EnvS with good:=fun f=>nA.contains f,free:=true,junk:=true,dfr:=fun f=>f==67}
def nB(P:Program)(f:Nat):Bool:=match P.funcs[f]? with| some fn => (fn.name != "runtime.NumGoroutine") && (match fn.body with | some c => aV c | none => false)|none=>true
def Ok(E:Env)(l:List Nat)(v:∀f,E.good f=l.contains f)(h:l.all (nB E.P)=true)(x:E.junk=true->E.nn=true)(a:E.free=true):E.Fine:=by
 have p:∀f fn,E.good f=true->E.P.funcs[f]?=some fn->(fn.name== "runtime.NumGoroutine")=false/\∃c,fn.body=some c/\aV c=true:=by intro f fn a g;rw[v]at a;have j:=bK.1 h f (by simpa using a);unfold nB at j;rw[g]at j;simp only[aY]at j;refine⟨by simpa using j.1,?_⟩;cases m:fn.body with
  |none=>rw[m]at j;exact absurd j.2 Qd|some c=>rw[m]at j;exact⟨c,rfl,j.2⟩
 refine⟨fun h=>(by rw[a]at h;cases h),fun f fn c a g m=>?_,x,fun f fn a g=>(p f fn a g).1,fun f fn a g m=>?_,fun f fn e a g m=>?_⟩;·obtain⟨_,s,j,r⟩:=p f fn a g;rw[m]at j;cases j;exact r
 .obtain⟨_,s,j,r⟩:=p f fn a g;rw[j]at m;cases m
 .obtain⟨_,s,j,r⟩:=p f fn a g;rw[j]at m;cases m
def kY:cV.Fine:=Ok cV nA (fun _=>rfl) Qb (fun _=>rfl) rfl
def Pl:Sub S0 cV:=⟨rfl,rfl,rfl,rfl,rfl,fun h=>(by cases h),fun f h=>by have c:gW.contains f=true:=h;show nA.contains f=true;simp only[nA,pC,s0,z1]at c |-;exact .inl c,fun h=>h⟩
def HV:Sub S0 EnvS:=⟨rfl,rfl,rfl,rfl,rfl,fun h=>h,fun f h=>h,fun h=>h⟩
open Tryz
def iI:List Nat:=[14,42,21,49,47,16,20,17,34,35,36,37,38,29,22,70,25,71,31,24,30,46,69,39,40,48,74,75,76,77,64,78,45,59,60,96,86,43,44,50,57,61,62,63,88,56,51,68,65,95,87,58,93,72,73,79,85,110,89,90,91,92,94,102,103,124,104,105,106,107,108,109,111,115,112,113,131,132,133,134,114,116,117,118,119,120,121,122,123,125,126,137,138,139,140,141,127,128,129,130,142,143,135,136]
noncomputable def ZM:Env:={P:=prog,good:=fun f=>iI.contains f,glob:=fun g=>[0,5,1,2,6,7].contains g,sh:=false,free:=false,junk:=false,nn:=true,dfr:=fun _=>false,dark:=fun g=>[3,4].contains g,tab:=.refuse "#"}
def fL:Strict ZM:=⟨rfl,rfl,fun _=>rfl,rfl⟩
def dM:List Nat:=[106,116,126]
noncomputable def HW(E:Env)(f:Nat):Bool:=match E.P.funcs[f]? with| some fn => (fn.name != "runtime.NumGoroutine") && (match fn.body with | some c => E.code c | none => dM.contains f && (Extern.findNext fn).isNone)|none=>true
def QM:Extern.find Tryz.f106=some Extern.BytealgCount.count:=Qb
def QO:Extern.find Tryz.f116=some Extern.BytealgIndex.index:=Qb
def QP:Extern.find Tryz.f126=some Extern.BytealgIndexByte.indexByte:=Qb
def QQ:prog.globals.findIdx? (·.name== "internal/bytealg.MaxLen")=some 0:=Qb
def pJ(E:Env) (r:E.P=prog) (m:E.glob 0=true) {f:Nat} {fn:Func} {e:Array Value->Sem Value} (c:E.P.funcs[f]?=some fn) (d:dM.contains f=true) (j:Extern.find fn=some e) (B:Blk) (b a:Array Value) (h:AR E B b a):SR E (QV E) B (e b) (e a):=by
 rw[r]at c;have p:f=106∨f=116∨f=126:=by simpa [dM] using d
 rcases p with rfl|rfl|rfl;·rw[func106]at c;cases c;rw[QM]at j;cases j;exact PM h
 .rw[func116]at c;cases c;rw[QO]at j;cases j;refine PQ (fun g s=>?_) h;rw[r,QQ]at s;cases s;exact m
 .rw[func126]at c;cases c;rw[QP]at j;cases j;exact PN h
def QR(E:Env)(A:E.P=prog)(x:E.glob 0=true)(l:List Nat)(F:∀f,E.good f=l.contains f)(h:l.all (HW E)=true)(H:E.junk=true->E.nn=true):E.Fine:=by
 have s:∀f fn,E.good f=true->E.P.funcs[f]?=some fn->(fn.name== "runtime.NumGoroutine")=false/\((∃c,fn.body=some c/\E.code c=true)∨(fn.body=none/\dM.contains f=true/\Extern.findNext fn=none)):=by intro f fn r g;rw[F]at r;have j:=bK.1 h f (by simpa using r);unfold HW at j;rw[g]at j;simp only[aY]at j;refine⟨by simpa using j.1,?_⟩;cases m:fn.body with
  |none=>rw[m]at j;have p:=j.2;simp only[aY]at p;exact .inr ⟨rfl,p.1,by simpa using p.2⟩|some c=>rw[m]at j;exact .inl ⟨c,rfl,j.2⟩
 refine⟨fun _ f fn c r g m=>?_,fun f fn c r g m=>?_,H,fun f fn r g=>(s f fn r g).1,fun f fn r g m=>?_,fun f fn e r g m C B K y I=>?_⟩
 .rcases(s f fn r g).2 with⟨v,j,p⟩|⟨j,_⟩;·rw[m]at j;cases j;exact p
  .rw[m]at j;cases j
 .rcases(s f fn r g).2 with⟨v,j,p⟩|⟨j,_⟩;·rw[m]at j;cases j;exact D8 c p
  .rw[m]at j;cases j
 .rcases(s f fn r g).2 with⟨v,j,p⟩|⟨_,_,p⟩;·rw[j]at m;cases m
  .exact p
 .rcases(s f fn r g).2 with⟨v,j,p⟩|⟨_,p,_⟩;·rw[j]at m;cases m
  .exact pJ E A x g p C B K y I
def ZZ:ZM.Fine:=QR ZM rfl Qc iI (fun _=>rfl) Qb (fun h=>(by cases h))
def QS{E:Env} (h:E.Fine)(r:E.P=prog)(j:E.glob 0=true)(b:∀f fn,E.good f=true->E.P.funcs[f]?=some fn->fn.body.isNone=true->dM.contains f=true)(a:Code):(E.run a).Fine:=⟨fun g=>(by cases g),h.mark,fun x=>(by cases x),h.name,h.next,fun f fn e g c s v B y p m=>pJ (E.run a) r j c (b f fn g c s) v B y p m⟩
noncomputable def zC(f:Nat):Bool:=match prog.funcs[f]? with|some fn=>fn.body.isSome||dM.contains f|none=>true
def QT:iI.all zC=true:=Qb
def QW(f:Nat)(fn:Func)(b:iI.contains f=true)(j:prog.funcs[f]?=some fn)(a:fn.body.isNone=true):dM.contains f=true:=by
 have g:=bK.1 QT f (by simpa using b);unfold zC at g;rw[j]at g;simp only[dR]at g;rcases g with g|g;·cases h:fn.body with
  |none=>rw[h]at g;cases g|some c=>rw[h]at a;cases a
 .exact g
def iN(a:Code):(ZM.run a).Fine:=QS ZZ rfl Qc (fun f g j c h=>QW f g j c h) a
def zD:List Nat:=iI++[19,18,41]
noncomputable def ZP:Env:={ZM with good:=fun f=>zD.contains f,free:=true}
noncomputable def HX(f:Nat):Bool:=match prog.funcs[f]? with| some fn => (fn.name != "runtime.NumGoroutine") && (match fn.body with | some c => aV c | none => dM.contains f && (Extern.findNext fn).isNone)|none=>true
def QX(E:Env)(C:E.P=prog)(x:E.glob 0=true)(v:E.free=true)(l:List Nat)(H:∀f,E.good f=l.contains f)(h:l.all HX=true)(I:E.junk=true->E.nn=true):E.Fine:=by
 have s:∀f fn,E.good f=true->E.P.funcs[f]?=some fn->(fn.name== "runtime.NumGoroutine")=false/\((∃c,fn.body=some c/\aV c=true)∨(fn.body=none/\dM.contains f=true/\Extern.findNext fn=none)):=by intro f fn m g;rw[H]at m;rw[C]at g;have j:=bK.1 h f (by simpa using m);unfold HX at j;rw[g]at j;simp only[aY]at j;refine⟨by simpa using j.1,?_⟩;cases r:fn.body with|none=>rw[r]at j;have p:=j.2;simp only[aY]at p;exact .inr ⟨rfl,p.1,by simpa using p.2⟩|some c=>rw[r]at j;exact .inl ⟨c,rfl,j.2⟩
 refine⟨fun m=>(by rw[v]at m;cases m),fun f fn c m g r=>?_,I,fun f fn m g=>(s f fn m g).1,fun f fn m g r=>?_,fun f fn e m g r F B L y K=>?_⟩
 .rcases(s f fn m g).2 with⟨A,j,p⟩|⟨j,_⟩;·rw[r]at j;cases j;exact p
  .rw[r]at j;cases j
 .rcases(s f fn m g).2 with⟨A,j,p⟩|⟨_,_,p⟩;·rw[j]at r;cases r
  .exact p
 .rcases(s f fn m g).2 with⟨A,j,p⟩|⟨_,p,_⟩;·rw[j]at r;cases r
  .exact pJ E C x g p F B L y K
def pK:ZP.Fine:=QX ZP rfl Qc rfl zD (fun _=>rfl) Qb (fun h=>(by cases h))
def QY(l m:List Nat)(f:Nat)(h:l.contains f=true):(l++m).contains f=true:=by simp only[pC,s0,z1]at h |-;exact .inl h
def Z0:Sub ZM ZP:=⟨rfl,rfl,rfl,rfl,rfl,fun h=>h,fun f h=>QY iI _ f h,fun h=>h⟩
end Go.Proofs
namespace Go.Proofs
open Go.Twin
def l6:List Nat:=[5,14,7,28,84,8,80,52,21,10,49,11,12,26,47,15,16,100,13,6,9,34,35,36,37,38,55,101,29,22,70,25,31,24,53,30,46,69,39,40,48,74,75,76,77,64,78,45,32,54,59,60,23,27,96,86,33,81,50,57,61,62,63,82,83,99,56,51,65,95,87,58,79,97,98,85,102,103,112,113]
noncomputable def bI:Env:={P:=Tryz.prog,good:=fun f=>l6.contains f,glob:=fun _=>false,sh:=true,free:=false,junk:=false,nn:=true,dfr:=fun _=>false,dark:=fun _=>false,tab:=.refuse "#",z0:=true}
def HY:Strict bI:=⟨rfl,rfl,fun _=>rfl,rfl⟩
def F5:bI.Fine:=pI bI l6 (fun _=>rfl) Qb rfl
noncomputable def kK:Env:={bI with free:=true,junk:=true}
def HZ:kK.Fine:=Ok kK l6 (fun _=>rfl) Qb (fun _=>rfl) rfl
def FH:Sub bI kK:=⟨rfl,rfl,rfl,rfl,rfl,fun h=>(by cases h),fun _ h=>h,fun h=>h⟩
def QZ:l6.all (nB Tryz.prog)=true:=Qb
def Q4(b:Code):(bI.run b).Fine:=Ok (bI.run b) l6 (fun _=>rfl) QZ (fun h=>by cases h) rfl
end Go.Proofs
