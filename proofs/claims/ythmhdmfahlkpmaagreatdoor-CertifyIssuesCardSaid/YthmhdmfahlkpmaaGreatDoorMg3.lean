import Derived.Test.YthmhdmfahlkpmaaGreatDoorMg2
import Derived.Conc.TokenWalk
import Derived.Conc.CompanyWords
import Derived.Test.YthmhdmfahlkpmaaGreatDoorProg
set_option linter.all false
def Qb{P:Prop}(h:P:=by kernel_rfl):P:=h
set_option maxRecDepth 100000
set_option maxHeartbeats 16000000
namespace Go
def ZyH:=@or_false
def cL:=@Frame.finish_at
def XY:=@Conc.lt_size_of_getElem?
def Ap:=@Conc.getElem?_append_old
def b6:=@Conc.heard_old
def mM:=@Conc.offersAt_of_not_blocked
def Ao:=@Conc.deaf_old
def jD:=@Conc.getElem?_append_cases
def jE:=@Conc.touchAt_of
def uB:=@Conc.QuitsD.ctl
def oG:=@Conc.touch_of
def kA:=@Conc.listed_none
def uL:=@List.countP_cons
def qF:=@Conc.getElem?_stand
def qG:=@Classical.not_forall
def qH:=@List.contains_eq_mem
def zJ:=@Conc.offersAt_parked_recv
def zK:=@Array.getElem?_append_right
def zL:=@Array.getElem?_ofFn
def zM:=@Array.sizeOf_getElem
def C9:=@Array.getElem?_mapIdx
def U2:=@Bool.not_eq_true'
def bP:=@List.all_eq_true
def iL:=@List.getElem?_eq_none_iff
def C1:=@List.mem_append
def ZBq:=@List.mem_cons
def eC:=@List.mem_filter
def k3:=@List.mem_of_getElem?
def jF:=@Nat.le_add_right
def iM:=@Nat.pos_of_ne_zero
def k2:=@Nat.zero_le
def bV:=@Option.map_some
def M3:=@Option.some.injEq
end Go
namespace Go.Twin
open Go.Conc (G)
section
variable {E:Env} {sh:hN} {bs':hA}
structure Own2 (E:Env)(sh:hN)(bs':hA)(f:y1)(cs:hA)(l:World)(fa:y1)(ca:hA)(B:Blk):Prop where
 st:ST E B [ZJ E.P] bs' (f::cs) (fa::ca)
 wr:WR E ⟨sh,fun _=>True⟩ B l l
 low:∀b,sh b->b<l.heap.size
 idn:∀b b',B b b'->b=b'
def Own2.re{f c:y1} {cs b:hA} {l:World} {B:Blk} (h:Own2 E sh bs' f cs l c b B)(t:aJ)(d:Nat):Own2 E sh bs' f cs (l.re t d) c b B:=⟨h.st,h.wr.retape rfl rfl rfl fun _ _ _=>rfl,h.low,h.idn⟩
def QH(R:E.Fine)(T:E.junk=false) {f k:y1} {cs i:hA} {l:World} {B:Blk} (h:Own2 E sh bs' f cs l k i B)(Z:¬bC [ZJ E.P] f cs)(V:f.mode=.run->Chk E f) {n:Goroutine} {a:World} {q:Array Event} (d:stepG E.P true (G f cs) l=.go n a q):∃y g,n=G y g/\(PK a [ZJ E.P] y g∨∃r p s v,B.le s/\Own2 E sh bs' y g a r p s/\stepG E.P true (G k i) l=.go (G r p) a v):=by
 have:=C6 R h.st h.wr h.low true true V (C8 h.st Z) (.inl fun _=>trivial);rw[d]at this;rcases this with⟨y,g,rfl,t⟩|⟨y,g,r,p,e,v,s,U,rfl,K,j,L,W⟩;·exact⟨y,g,rfl,.inl t⟩
 .refine⟨y,g,rfl,.inr ?_⟩;have C:∀b b',s b b'->b=b':=by
   intro b b' m;rcases j.al b b' m with x|⟨x1,x2,x3⟩;·exact h.idn _ _ x
   .omega
  have A:e.heap=a.heap:=by
   have S:e.heap.size=a.heap.size:=by have:=j.size.2.2;omega
   apply dD;intro b;by_cases m:∃b',s b b'/\¬sh b;·obtain⟨b',m,d⟩:=m;obtain rfl:=C _ _ m;obtain⟨o,o',N,O,Q⟩:=j.wr.obj _ _ m d;rw[N,O,Q.eq T C]
   .have m:∀b',s b b'->sh b:=fun b' x=>fX fun d=>m ⟨b',x,d⟩;by_cases F:b<l.heap.size
    .rw[j.lkeep b F fun b' x=>m b' (j.le _ _ x)];exact j.keep b F fun c x=>by have:=h.idn _ _ x;subst this;exact m _ (j.le _ _ x)
    .by_cases H:b<a.heap.size;·obtain⟨b',x⟩:=j.cov b Qa H;exact absurd (h.low b (m b' x)) F
     .rw[dQ Qa,dQ Qa]
  have I:e=a:=by obtain⟨D,J,M,s4⟩:=j.same;obtain⟨u,w,z,r4⟩:=j.lone;have X:=j.draws;obtain⟨wh,wt,wd,wo,wx⟩:=e;obtain⟨lh,lt,Y,lo,lx⟩:=a;simp only at*;subst A D J M;rw[u,w,z];congr 1;omega
  subst I;exact⟨r,p,s,v,j.le,⟨L,j.wr.retape rfl rfl rfl fun _ _ _=>rfl,fun b m=>h8 (h.low b m) j.size.2.1,C⟩,K⟩
def FR.chk_other{B:Blk} {f a:y1} (h:FR E B f a)(g:Chk E f):Chk E a:=by have j:=h.todo;unfold Chk at g |-;generalize f.todo=x at j g;generalize a.todo=m at j |-;cases j with|nil=>exact g|cons y y' k k' hy hs=>cases hy with|mark=>exact absurd rfl g|inRegion ops td ho=>cases td<;>exact g|code c hx=>cases c<;>exact g|_=>exact g
def FR.mode_run{B:Blk} {f a:y1} (h:FR E B f a)(b:a.mode=.run):f.mode=.run:=by
 rcases h.mode with⟨c,g⟩|⟨c,g⟩;·exact c
 .rw[g]at b;cases b
variable {Stop Stop':aH}
def qI(w:E.Fine)(z:E.junk=false)(b:Halts Stop) {f:y1} {cs:hA} {l:World} (D:LG E Stop f cs l):∀{B:Blk} {fa:y1} {ca:hA},Own2 E sh bs' f cs l fa ca B->(∀{T:Blk} {V:y1} {A:hA} {l₁:World} {H:y1} {y:hA},Stop V A l₁->B.le T->Own2 E sh bs' V A l₁ H y T->LG E Stop' H y l₁)->LG E Stop' fa ca l:=by induction D with
 |stop f cs l h=>intro B fa ca v Q;exact Q h (Blk.le_refl _) v|step f cs l hc hg hs ih=>
  intro B fa ca v Q;have R:¬bC [ZJ E.P] f cs:=by
   intro R;obtain⟨F,m,a,C,c⟩:=hg l.tape l.drawn;rcases qD (l:=l.re l.tape l.drawn) v.st.head.kind.1 R with⟨o,x,C,s⟩|⟨i,N,X,U,s,I⟩;·rw[s]at c;cases c
   .exact uK b (hs _ _ _ _ _ _ s) I
  have K:∀t d,∃F m a C p j L r,stepG E.P true (G f cs) (l.re t d)=.go (G F m) a C/\B.le L/\Own2 E sh bs' F m a p j L/\stepG E.P true (G fa ca) (l.re t d)=.go (G p j) a r:=by
   intro t d;obtain⟨F,m,a,C,c⟩:=hg t d;obtain⟨i,N,e,M|⟨p,j,L,r,s,I,O⟩⟩:=QH w z (v.re t d) R hc c;·exfalso;simp only[G,bS,bQ]at e;obtain⟨rfl,rfl⟩:=e;exact uK b (hs _ _ _ _ _ _ c) (.inl M)
   .simp only[G,bS,bQ]at e;obtain⟨rfl,rfl⟩:=e;exact⟨_,_,_,_,_,_,_,_,c,s,I,O⟩
  refine .step fa ca l (fun J=>v.st.head.chk_other (hc (v.st.head.mode_run J))) (fun t d=>?_) fun t d g Z W S c=>?_;·obtain⟨_,_,a,_,p,j,_,r,_,_,_,h⟩:=K t d;exact⟨_,_,_,_,h⟩
  .obtain⟨F,m,a,C,p,j,L,r,s,I,O,k⟩:=K t d;rw[k]at c;simp only[A7,G,bS,bQ]at c;obtain⟨⟨rfl,rfl⟩,rfl,_⟩:=c;exact ih _ _ _ _ _ _ s O fun n q u=>Q n (Blk.le_trans I q) u
def zN{P:aA} {f c:y1} {cs:hA} {w:World} {v:Value} (h:f.leaving P w (.returned v)):∃j,stepG P true (G f (c::cs)) w=.go (G (c.finish v) cs) w j:=by
 obtain⟨y,p,x,m,r,g⟩:=h;have A:((results m f.tmps).runT P w #[]).1=.ok v w:=by rw[Sem.runT_eq];exact g
 have:(stepG P true (G f (c::cs)) w).bare=.go (G (c.finish v) cs) w:=by simp[G,stepG,unwind,doReturn,y,p,x,r,g]
 generalize stepG P true (G f (c::cs)) w=s at this |-;cases s<;>simp at this;obtain⟨rfl,rfl⟩:=this;exact⟨_,rfl⟩
end
def Env.wide(E:Env)(good:FuncId->Bool)(junk:Bool)(tab:Code):Env:={E with good:=good,free:=true,junk:=junk,tab:=tab}
def QI{E:Env} {a:FuncId->Bool} {b:Bool} {e:Code} (h:∀f,E.good f=true->a f=true)(c:E.junk=true->b=true):Sub E (E.wide a b e):=⟨rfl,rfl,rfl,rfl,rfl,c,h,fun h=>h⟩
section
variable {E:Env} {sh:hN}
def QJ(I:E.junk=false) {S:Side} {B m:Blk} {l w a d:World} {A:Array Event} (h:Ran E S B l w m a d A)(s:w.heap=l.heap)(y:∀b,S b->b<l.heap.size)(r:∀b b',B b b'->b=b'):d.heap=a.heap/\∀b b',m b b'->b=b':=by
 have g:∀b b',m b b'->b=b':=by
  intro b b' f;rcases h.al b b' f with x|⟨O,Q,L⟩;·exact r _ _ x
  .rw[s]at L;omega
 refine⟨?_,g⟩;have K:d.heap.size=a.heap.size:=by have:=h.size.2.2;rw[s]at this;omega
 apply dD;intro b;by_cases f:∃b',m b b'/\¬S b;·obtain⟨b',f,v⟩:=f;obtain rfl:=g _ _ f;obtain⟨o,N,C,F,H⟩:=h.wr.obj _ _ f v;rw[C,F,H.eq I g]
 .have f:∀b',m b b'->S b:=fun b' x=>fX fun v=>f ⟨b',x,v⟩;by_cases j:b<l.heap.size
  .rw[h.lkeep b j fun b' x=>f b' (h.le _ _ x),<-s];exact h.keep b (by rw[s];exact j) fun c x=>by have:=r _ _ x;subst this;exact f _ (h.le _ _ x)
  .by_cases p:b<a.heap.size;·obtain⟨b',x⟩:=h.cov b Qa p;exact absurd (y b (f b' x)) j
   .rw[dQ Qa,dQ Qa]
def SR.retape(K:E.junk=false) {B:Blk} {s:Sem Value} {l:World} {v:Value} {t:aJ} {d:Nat} (h:SR E (QV E) B s s)(i:WR E ⟨sh,fun _=>True⟩ B l l)(g:∀b,sh b->b<l.heap.size)(C:∀b b',B b b'->b=b')(N:s.run E.P (l.re t d)=.ok v (l.re t d))(r:aJ)(m:Nat):s.run E.P (l.re r m)=.ok v (l.re r m)/\∃c,B.le c/\(∀b b',c b b'->b=b')/\WR E ⟨sh,fun _=>True⟩ c l l/\VR E c v v:=by
 have y:WR E ⟨sh,fun _=>False⟩ B (l.re t d) (l.re r m):=i.retape rfl rfl rfl fun _ _ x=>x.elim;have L:=h.both y g (by rw[N];exact fun j p F=>absurd F (hQ.2 p));rw[N]at L;obtain⟨c,n,a,Q,p,F,f,H⟩:=L;obtain⟨O,I⟩:=QJ K f rfl g C;have e:=VR.eq_of K I H;subst e;have A:a=l.re r m:=by obtain⟨R,T,V,k⟩:=f.same;have Z:=f.draws;obtain⟨q,w,o,u,z⟩:=a;simp only[World.re]at*;subst O R T V;congr 1;omega
 rw[A]at p f;exact⟨p,c,f.le,I,f.wr.retape rfl rfl rfl fun _ _ _=>rfl,H⟩
def Ret(P:aA) (R:hS) (f:y1) (cs:hA) (l:World):Prop:=cs=[ZJ P]/\∃v t d,f.leaving P (l.re t d) (.returned v)/\R v (l.re t d)
def Ax(P:aA)(R:hS):Halts (Ret P R):=⟨fun f cs l h=>by obtain⟨rfl,v,t,d,g,j⟩:=h;exact⟨Qd,fun c m=>by rw[g.1]at m;cases m⟩,fun f cs l t d h=>by obtain⟨r,v,s,p,g,j⟩:=h;exact⟨r,v,s,p,g,j⟩⟩
def QK(h:E.Fine)(hF:Strict E) {B:Blk} {g:FuncId} {a:bJ} {l:World} {R:hS} (y:E.good g=true)(o:WR E ⟨sh,fun _=>True⟩ B l l)(f:∀b,sh b->b<l.heap.size)(c:∀b b',B b b'->b=b')(k:AR E B a a)(r:∀t d,Calls E.P g a (l.re t d) fun e w=>∃v,e=.returned v/\R v w):LG E (Ret E.P R) (Frame.enter E.P g a .normal) [ZJ E.P] l/\Own E sh [ZJ E.P] (Frame.enter E.P g a .normal) [ZJ E.P] l B:=by have j:Own E sh [ZJ E.P] (Frame.enter E.P g a .normal) [ZJ E.P] l B:=⟨.last _ _ (ZF h y k) rfl,o,f,c⟩;refine⟨j9 (s:=⟨Frame.enter E.P g a .normal,[ZJ E.P],l⟩) h hF (Ax E.P R) ⟨⟨B,j⟩,fun t d=>?_⟩,j⟩;obtain⟨e,i,m,⟨v,rfl,p⟩,⟨n,C⟩,x,A⟩:=r t d [ZJ E.P];exact⟨n,m,[ZJ E.P],i,C,rfl,v,i.tape,i.drawn,A,p⟩
end
section
variable {E:Env} {sh:hN} {good:FuncId->Bool} {tab:Code} {Stop':aH}
def IZ(Y:E.Fine)(hF:Strict E)(K:(E.wide good false tab).Fine)(A:∀f,E.good f=true->good f=true) {B:Blk} {g:FuncId} {args:bJ} {l:World} {R:hS} (q:E.good g=true)(u:WR E ⟨sh,fun _=>True⟩ B l l)(T:∀b,sh b->b<l.heap.size)(Q:∀b b',B b b'->b=b')(o:AR E B args args)(hR:∀v w t d,R v w->R v (w.re t d))(hc:∀t d,Calls E.P g args (l.re t d) fun e w=>∃v,e=.returned v/\R v w)(c:y1)(bs:hA)(k:∀v l' H,R v l'->B.le H->WR (E.wide good false tab) ⟨sh,fun _=>True⟩ H l' l'->(∀b,sh b->b<l'.heap.size)->(∀b b',H b b'->b=b')->VR (E.wide good false tab) H v v->LG (E.wide good false tab) Stop' (c.finish v) bs l'):LG (E.wide good false tab) Stop' (Frame.enter E.P g args .normal) (c::bs) l:=by
 have F:Sub E (E.wide good false tab):=QI A fun h=>by rw[hF.junk]at h;cases h
 obtain⟨hL,hO⟩:=QK (R:=R) Y hF q u T Q o hc;have z:=hL.sub F;have D:Own2 (E.wide good false tab) sh (c::bs) (Frame.enter E.P g args .normal) [ZJ E.P] l (Frame.enter E.P g args .normal) (c::bs) B:=⟨.last _ _ (ZF (E:=E.wide good false tab) K (A g q) (F.ar o)) rfl,F.wr u,T,Q⟩;refine qI (bs':=c::bs) K rfl (Ax E.P R) z D ?_;rintro B₁ i aH V r aF ⟨rfl,v,t,d,hl,hr⟩ M p;have s:=p.st;cases s with
 |cons f f' cs cs' hf _ hs=>cases hs with|cons _ _ _ _ _ _ h=>cases h
 |last _ _ hf hrd=>
  obtain⟨hm,hd,hk,fn,J,O⟩:=hl;have a:i.tmps=r.tmps:=hf.tmps.eq (show (E.wide good false tab).junk=false from rfl) p.idn;have n:=hf.tmps;rw[<-a]at n;have y:=SR.retape (E:=E.wide good false tab) rfl (C4 fn n) p.wr p.low p.idn (t:=t) (d:=d) (v:=v) O;have N:∀m j,r.leaving E.P (V.re m j) (.returned v):=by
   intro m j;refine⟨?_,?_,(by
    rcases hf.kind.2 with h|⟨h,_⟩;·exact h
    .have C:E.dfr i.fn=true:=h;rw[hF.dfr]at C;cases C),fn,hf.fn▸J,?_⟩
   .rcases hf.mode with⟨I,C⟩|⟨I,C⟩;·rw[hm]at I;cases I
    .exact C
   .have:=hf.defers;rw[hd]at this;generalize r.defers=x at this |-;cases this;rfl
   .have h:=(y m j).1;rw[<-a];exact h
  have L:∀m j,∃Z,stepG E.P true (G r (c::bs)) (V.re m j)=.go (G (c.finish v) bs) (V.re m j) Z:=fun m j=>zN (N m j);refine .step _ _ _ (fun S=>?_) (fun m j=>?_) fun m j g1 aG l1 aI s=>?_;·exfalso;have:=(N t d).1;rw[S]at this;cases this
  .obtain⟨Z,h⟩:=L m j;exact⟨_,_,_,_,h⟩
  .obtain⟨Z,h⟩:=L m j;have U:stepG (E.wide good false tab).P true (G r (c::bs)) (V.re m j)=.go (G (c.finish v) bs) (V.re m j) Z:=h;rw[U]at s;simp only[A7,G,bS,bQ]at s;obtain⟨⟨rfl,rfl⟩,rfl,_⟩:=s;obtain⟨H,I,C,W,X⟩:=(y m j).2;refine k v _ H ?_ (Blk.le_trans M I) (W.retape rfl rfl rfl fun _ _ _=>rfl) p.low C X;have:=hR _ _ m j hr;exact this
end
end Go.Twin
namespace Go.Twin
open Go.Conc
open Go.ConcN (upd upd_ne upd_same)
variable {a:Touch} {S:Side} {B:Blk} {e:Event}
structure Node where
 sh:Nat->Prop
 bs:List Frame
 B:Blk
 f:Frame
 cs:List Frame
 l:World
 stop:Frame->List Frame->World->Prop
def AtB(a:Touch)(x:Nat):Prop:=(∃c:Addr,a.loc=.cell c/\c.block=x)∨a.loc=.obj x
def nD(n:Node)(a:Touch):Prop:=∀b x,n.B b x->AtB a x->n.sh b/\a.write=false
def I0{x B:Nat} {m:MemAct} (b:m.touch?=some a)(f:m.low B)(h:AtB a x):x<B:=by cases m with
 |access e=>
  obtain⟨j,wr,p⟩:=e;simp only[MemAct.touch?,M3]at b;subst b;rcases h with⟨g,c,rfl⟩|c;·dsimp only at c;subst c;exact f
  .dsimp only at c;subst c;exact f|mark k=>cases k<;>simp only[MemAct.touch?,M3,reduceCtorEq]at b<;>subst b;all_goals
   rcases h with⟨g,c,rfl⟩|c;·cases c;exact f
   .cases c|_=>simp[MemAct.touch?]at b
def QL(h:bH S B e)(d:(MemAct.ofEvent e).touch?=some a):∃b x,B b x/\(∀y,AtB a y->y=x)/\AtB a x/\(a.write=true->¬S b):=by obtain⟨s,wr,v⟩:=e;cases s with
 |cell ad=>obtain⟨f,b,j,p⟩:=h;dsimp only at f;subst f;cases wr<;>simp only[MemAct.ofEvent,MemAct.touch?,M3]at d<;>subst d;all_goals
   refine⟨b,ad.block,j,?_,.inl ⟨ad,rfl,rfl⟩,p⟩;rintro y (⟨g,c,rfl⟩|c);·cases c;rfl
   .cases c|obj r=>obtain⟨f,b,j,p⟩:=h;dsimp only at f;subst f;cases wr<;>simp only[MemAct.ofEvent,MemAct.touch?,M3]at d<;>subst d;all_goals
   refine⟨b,r,j,?_,.inr rfl,fun _=>p⟩;rintro y (⟨g,c,rfl⟩|c);·cases c
   .cases c;rfl|mark m=>cases m<;>first|exact absurd h id|(simp[MemAct.ofEvent,MemAct.touch?]at d)
 |output=>exact h.elim|goroutines=>exact h.elim
def QM{d:Nat} (j:∀b x,B b x->x<d)(h:bH S B e):(MemAct.ofEvent e).low d:=by obtain⟨g,wr,s⟩:=e;cases g with
 |cell ad=>obtain⟨c,b,f,p⟩:=h;dsimp only at c;subst c;cases wr<;>exact j _ _ f|obj r=>obtain⟨c,b,f,p⟩:=h;dsimp only at c;subst c;cases wr<;>exact j _ _ f|mark m=>cases m<;>first|exact absurd h id|trivial
 |output=>exact h.elim|goroutines=>exact h.elim
def QO(h:bH S B e):e.loc≠.mark .disable/\e.loc≠.mark .enable:=by obtain⟨c,wr,f⟩:=e;constructor<;>rintro rfl<;>exact h
abbrev _root_.bN:=Nat->Option Node
abbrev _root_.bW:=Nat->Option Nat
structure Tr (M:bN)(S:bW)(bnd:Nat)(t:Trace):Prop where
 clean:∀said,¬Race said t
 seen:∀op∈t,op.act.low bnd
 known:∀i a,touchAt t i=some a->a.loc.isMemory=true->∀j n,M j=some n->Knows t j i∨nD n a
 hand:∀i a,touchAt t i=some a->a.loc.isMemory=true->Knows t 0 i∨(∃k n,M k=some n/\Knows t k i)∨∃k p,S k=some p/\Before t i p
section
variable {M:bN} {S:bW} {bnd bnd':Nat} {t u:Trace}
def Tr.mono(h:Tr M S bnd t)(hb:bnd<=bnd'):Tr M S bnd' t:=⟨h.clean,fun f c=>MemAct.low_mono hb (h.seen f c),h.known,h.hand⟩
def Tr.mute(h:Tr M S bnd t) {g:Nat} (d:∀f∈u,f.g=g)(K:∀f∈u,f.act.touch?=none)(N:∀f∈u,f.act.low bnd):Tr M S bnd (t++u):=by
 have r:∀i a,touchAt (t++u) i=some a->touchAt t i=some a:=by
  intro i a m;obtain⟨x,O,c⟩:=oG m;rcases jD O with⟨_,F⟩|⟨_,H⟩;·rw[jE F];exact c
  .rw[K x H]at c;cases c
 refine⟨fun s=>noRace_append (h.clean s) d fun i a _ f C b I _=>(by rw[K f C]at I;cases I),seen_app h.seen N,fun i a m A j n L=>?_,fun i a m A=>?_⟩;·exact(h.known i a (r i a m) A j n L).imp (·.app u) id
 .rcases h.hand i a (r i a m) A with x|⟨k,n,v,y⟩|⟨k,p,v,y⟩;·exact .inl (x.app u)
  .exact .inr (.inl ⟨k,n,v,y.app u⟩)
  .exact .inr (.inr ⟨k,p,v,y.app u⟩)
def oH{i:Nat} {a:Touch} (h:touchAt t i=some a):∃f,t[i]?=some f/\f.act.touch?=some a/\f∈t:=by obtain⟨x,g,c⟩:=oG h;exact⟨x,g,c,Go.Conc.mem_of_getElem? g⟩
def Tr.own{i:Nat} {n n':Node} (h:Tr M S bnd t)(hi:M i=some n)(aN:n.B.le n'.B)(aL:n'.sh=n.sh)(D:∀b x,n'.B b x->n.B b x∨bnd<=x)(aA:∀b x,n'.B b x->x<bnd')(hb:bnd<=bnd')(H:∀j m b c x,j≠i->M j=some m->n.B b x->m.B c x->n.sh b/\m.sh c)(aB:∀j m c x,M j=some m->m.B c x->x<bnd) {fn:FuncId} {pos:String} {es:Array Event} (aE:∀e∈es,bH ⟨n.sh,fun _=>True⟩ n'.B e):Tr (upd M i (some n')) S bnd' (t++MemOp.ofEvents i fn pos es):=by
 have hu:∀F∈MemOp.ofEvents i fn pos es,F.g=i:=fun F r=>by obtain⟨e,_,rfl⟩:=k8 r;rfl
 have ev:∀F∈MemOp.ofEvents i fn pos es,∀b,F.act.touch?=some b->∃c x,n'.B c x/\(∀y,AtB b y->y=x)/\AtB b x/\(b.write=true->¬n.sh c):=by intro F r b hb;obtain⟨e,he,rfl⟩:=k8 r;exact QL (aE e he) hb
 refine⟨fun aI=>noRace_append (h.clean aI) hu fun k a T F r b aK hc=>?_,seen_app (h.mono hb).seen fun F r=>?_,fun k a T d j m N=>?_,fun k a T d=>?_⟩
 .obtain⟨aF,aG,aM,_⟩:=hc;rcases h.known k a T aG i n hi with hk|hf;·exact hk
  .exfalso;obtain⟨c,x,I,K,E,G⟩:=ev F r b aK;have aC:AtB a x:=by unfold AtB at E |-;rw[aF];exact E
   obtain⟨R,aH,O,L⟩:=oH T;have Z:=I0 O (h.seen R L) aC;rcases D c x I with C|C
   .obtain⟨J,U⟩:=hf c x C aC;rcases aM with V|V;·rw[U]at V;cases V
    .exact G V J
   .omega
 .obtain⟨e,he,rfl⟩:=k8 r;exact QM aA (aE e he)
 .obtain⟨x,Z,v⟩:=oG T;rcases jD Z with⟨_,Q⟩|⟨_,A⟩
  .have s:touchAt t k=some a:=by rw[jE Q];exact v
   by_cases f:j=i
   .subst f;rw[upd_same]at N;cases N;refine(h.known k a s d j n hi).imp (·.app _) fun hf b y hy aD=>?_;rcases D b y hy with C|C;·rw[aL];exact hf b y C aD
    .obtain⟨R,aH,O,L⟩:=oH s;have:=I0 O (h.seen R L) aD;omega
   .rw[upd_ne _ _ f]at N;exact(h.known k a s d j m N).imp (·.app _) id
  .by_cases f:j=i;·subst f;exact .inl (by have:=knows_own Z;rw[hu x A]at this;exact this)
   .rw[upd_ne _ _ f]at N;obtain⟨c,y,I,K,E,G⟩:=ev x A a v;refine .inr fun b z hz aJ=>?_;obtain rfl:=K z aJ;rcases D c z I with C|C;·obtain⟨J,U⟩:=H j m c b z f N C hz;refine⟨U,?_⟩;cases V:a.write with|false=>rfl|true=>exact absurd J (G V)
    .have:=aB j m b z N hz;omega
 .obtain⟨x,Z,v⟩:=oG T;rcases jD Z with⟨_,Q⟩|⟨_,A⟩
  .have s:touchAt t k=some a:=by rw[jE Q];exact v
   rcases h.hand k a s d with y|⟨j,m,I,K⟩|⟨j,p,I,K⟩;·exact .inl (y.app _)
   .refine .inr (.inl ?_);by_cases f:j=i;·exact⟨i,n',upd_same _ _ _,f▸K.app _⟩
    .exact⟨j,m,by rw[upd_ne _ _ f];exact I,K.app _⟩
   .exact .inr (.inr ⟨j,p,I,K.app _⟩)
  .exact .inr (.inl ⟨i,n',upd_same _ _ _,by have:=knows_own Z;rw[hu x A]at this;exact this⟩)
end
structure Job where
 ch:Nat
 V:Value->Prop
 bs:List Frame
 stop:Frame->List Frame->World->Prop
inductive Zs|run|park (c:Nat)(zz:Value)
def cH(z:Zs)(i:Nat)(fa:y1)(ca:hA):Goroutine:=match i,z with|0,.park c zz=>parked (G fa ca) #[rcase c zz] (.recv false)|_,_=>G fa ca
def jG(P:aA)(z:Zs)(n:Nat)(i:Nat)(d:y1)(b:hA)(g:Goroutine):Prop:=(n=0/\g=cH z i d b)∨(0<i/\n=1/\g.status=.running/\∀w,stepG P false g w=.go (G d b) w #[])
abbrev _root_.aL:=Nat->Option Job
structure Co (E:Env)(W0:World)(J:aL)(z:Zs)(M:bN)(S:bW)(gs:hE)(w:World)(t:Trace)(q:c6):Prop where
 live:∀i n,M i=some n->∃fa ca g,gs[i]?=some g/\jG E.P z (q i) i fa ca g/\Rel E n.sh n.bs n.B n.f n.cs n.l fa ca w
 old:∀i g,0<i->M i=none->gs[i]?=some g->QuitsD E.P (q i) (Deaf t i) g
 deaf:∀i,(M i≠none∨gs.size<=i)->Deaf t i=0
 zero:M 0≠none
 apart:∀i j n m b c x,i≠j->M i=some n->M j=some m->n.B b x->m.B c x->n.sh b/\m.sh c
 tr:Tr M S w.heap.size t
 chanM:∀k j n,J k=some j->M k=some n->w.heap[j.ch]?=some (.chan 1 #[] false 0 0 false)
 chanS:∀k j p,J k=some j->S k=some p->∃v,j.V v/\w.heap[j.ch]?=some (.chan 1 #[v] false 1 0 false)/\(∃op,t[p]?=some op/\op.act=.send j.ch 0)/\t.heard p
 job:∀k,0<k->(M k≠none∨S k≠none)->∃j,J k=some j
 one:∀k k' j j',J k=some j->J k'=some j'->j.ch=j'.ch->k=k'
 fresh:∀k j,J k=some j->W0.heap.size<=j.ch
 excl:∀k p,S k=some p->M k=none/\0<k
 wait:∀c zz,z=.park c zz->∃k j n,0<k/\J k=some j/\j.ch=c/\M k=some n
 stops:∀k j n,0<k->J k=some j->M k=some n->n.stop=j.stop/\n.bs=j.bs
 base:∀i n b x,M i=some n->n.B b x->x<W0.heap.size->n.sh b
 keep:W0.heap.size<=w.heap.size/\∀x,x<W0.heap.size->w.heap[x]?=W0.heap[x]?
 same:w.os=W0.os/\w.output=W0.output/\w.tape=W0.tape
section
variable {E:Env} {W0:World} {J:aL} {z:Zs} {M:bN} {S:bW} {gs:hE} {w w':World} {t:Trace} {q:c6} {sl:Option (Nat×Nat)}
def R2{k:hN} {bs:hA} {B:Blk} {f fa:y1} {cs ca:hA} {l:World} (h:Rel E k bs B f cs l fa ca w) {b x:Nat} (d:B b x):x<w.heap.size/\∀cap g m s r y,w.heap[x]?≠some (.chan cap g m s r y):=by
 refine⟨(h.wr.dom _ _ d).2,fun cap g m s r y p=>?_⟩;by_cases v:k b;·obtain⟨c,F,T,f,A,j,_⟩:=h.wr.shr b x d v;rw[p]at j;cases j
 .obtain⟨o,H,A,j,C⟩:=h.wr.obj b x d v;rw[p]at j;cases j;cases C
def S2(r:E.sh=true) {k:hN} {bs:hA} {B:Blk} {f fa:y1} {cs ca:hA} {l:World} (h:Rel E k bs B f cs l fa ca w)(p:w.heap.size<=w'.heap.size)(d:∀b x,B b x->w'.heap[x]?=w.heap[x]?):Rel E k bs B f cs l fa ca w':=by
 obtain⟨s,c,v⟩:=h;refine⟨s,⟨c.fn,c.inj,fun b g j=>⟨(c.dom b g j).1,h8 (c.dom b g j).2 p⟩,fun b g j m=>?_,fun b g j m=>?_,fun _ _ x=>x.elim,c.glob,c.low,⟨c.gsz.1,h9 c.gsz.2 p⟩,fun m=>?_,c.dark⟩,v⟩;·rw[d b g j];exact c.obj b g j m
 .rw[d b g j];exact c.shr b g j m
 .rw[r]at m;cases m
def Co.at_(h:Co E W0 J z M S gs w t q)(d:Nat):Co E W0 J z M S gs (w.at d) t q:=⟨fun i n m=>let ⟨s,r,g,c,j,f⟩:=h.live i n m;⟨s,r,g,c,j,f.at_ d⟩,h.old,h.deaf,h.zero,h.apart,h.tr,h.chanM,h.chanS,h.job,h.one,h.fresh,h.excl,h.wait,h.stops,h.base,h.keep,h.same⟩
def qJ{i:Nat} (f:0<i)(d:y1)(b:hA):cH z i d b=G d b:=by cases i with|zero=>omega|succ i=>rfl
def Co.chan_free(h:Co E W0 J z M S gs w t q) {i:Nat} {n:Node} (k:M i=some n) {c d s r:Nat} {f:bJ} {g v:Bool} (m:w.heap[c]?=some (.chan d f g s r v))(b:Nat):¬n.B b c:=by intro j;obtain⟨o,l,_,_,_,p⟩:=h.live i n k;exact(R2 p j).2 _ _ _ _ _ _ m
def QP{P:aA} {g k:Goroutine} {i:Nat} {d:y1} {b:hA} (l:∀c zz,z=.park c zz->∃h f s r j,w'.heap[c]?=some (.chan h f false s r j)):woken P g k w' (cH z i d b)=cH z i d b:=by
 unfold cH;split;·rename_i c zz;obtain⟨h,f,s,r,j,m⟩:=l c zz rfl;exact woken_recv_open _ _ m
 .exact woken_run rfl
def jG.woken{P:aA} {g g':Goroutine} {n i:Nat} {d:y1} {b:hA} {x:Goroutine} (h:jG P z n i d b x)(k:∀c zz,z=.park c zz->∃j f s r m,w'.heap[c]?=some (.chan j f false s r m)):Go.Conc.woken P g g' w' x=x:=by
 rcases h with⟨_,rfl⟩|⟨_,_,h,_⟩;·exact QP k
 .exact woken_run h
def SJ{P:aA} {g b x:Goroutine} {i j:Nat} (c:j≠i):((gs.map (woken P g x w')).setIfInBounds i b)[j]?=(gs[j]?).map (woken P g x w'):=by rw[cA (fun e=>c e.symm),bD]
def Co.go(aS:E.sh=true)(h:Co E W0 J z M S gs w t q) {i:Nat} {n:Node} (U:M i=some n)(hz:i=0->z=.run)(aQ:q i=0) {fa K:y1} {ca H:hA} (aN:gs[i]?=some (G fa ca)) {Z:Blk} {f':y1} {I:hA} {l':World} (hR:Rel E n.sh n.bs Z f' I l' K H w')(hW:Went n.sh n.B n.l w Z l' w')(aU:w'.tape=w.tape) {es:Array Event} (aK:∀e∈es,bH ⟨n.sh,fun _=>True⟩ Z e)(aW:Rel E n.sh n.bs n.B n.f n.cs n.l fa ca w):Co E W0 J z (upd M i (some {n with B:=Z,f:=f',cs:=I,l:=l'})) S ((gs.map (woken E.P (G fa ca) (G K H) w')).setIfInBounds i (G K H)) w' (t++MemOp.ofEvents i fa.fn fa.place es) q:=by
 have aO:i<gs.size:=(bO.1 aN).1;have hu:∀op∈MemOp.ofEvents i fa.fn fa.place es,op.g=i:=fun op aP=>by obtain⟨e,_,rfl⟩:=k8 aP;rfl
 have aG:∀x,x<w.heap.size->(∀b,n.B b x->n.sh b)->w'.heap[x]?=w.heap[x]?:=hW.keep;have aI:∀{x:Nat} {o:Obj},w.heap[x]?=some o->x<w.heap.size:=fun h=>(bO.1 h).1;have aB:∀{c cap s r:Nat} {O:bJ} {cl tm:Bool},w.heap[c]?=some (.chan cap O cl s r tm)->w'.heap[c]?=some (.chan cap O cl s r tm):=by intro c cap s r O cl tm L;rw[aG c (aI L) fun b F=>absurd F (h.chan_free U L b),L]
 have aA:∀b x,Z b x->n.B b x∨w.heap.size<=x:=fun b x F=>(hW.al b x F).imp id fun y=>y.2.1;have aT:((gs.map (woken E.P (G fa ca) (G K H) w')).setIfInBounds i (G K H)).size=gs.size:=Qd
 have aD:∀j m,j≠i->M j=some m->∀b x,m.B b x->w'.heap[x]?=w.heap[x]?:=by intro j m A C b x F;obtain⟨fj,cj,_,_,_,V⟩:=h.live j m C;exact aG x (R2 V F).1 fun c L=>(h.apart i j n m c b x (fun e=>A e.symm) U C L F).1
 have hM:∀j m,upd M i (some {n with B:=Z,f:=f',cs:=I,l:=l'}) j=some m->(j=i/\m={n with B:=Z,f:=f',cs:=I,l:=l'})∨(j≠i/\M j=some m):=by
  intro j m C;by_cases A:j=i;·subst A;rw[upd_same]at C;exact .inl ⟨rfl,(R' C).symm⟩
  .rw[upd_ne _ _ A]at C;exact .inr ⟨A,C⟩
 have aM:∀j,upd M i (some {n with B:=Z,f:=f',cs:=I,l:=l'}) j=none->j≠i/\M j=none:=by
  intro j C;by_cases A:j=i;·subst A;rw[upd_same]at C;cases C
  .rw[upd_ne _ _ A]at C;exact⟨A,C⟩
 have aJ:∀j,upd M i (some {n with B:=Z,f:=f',cs:=I,l:=l'}) j≠none->M j≠none:=by
  intro j C;by_cases A:j=i;·subst A;rw[U];simp
  .rwa [upd_ne _ _ A]at C
 have aV:∀c zz,z=.park c zz->∃cap O s r tm,w'.heap[c]?=some (.chan cap O false s r tm):=by intro c zz aH;obtain⟨k,j,m,Q,Y,rfl,h4⟩:=h.wait c zz aH;exact⟨_,_,_,_,_,aB (h.chanM k j m Y h4)⟩
 refine⟨fun j m C=>?_,fun j x C N hx=>?_,fun j C=>?_,?_,fun j k m m' b c x aC C R F L=>?_,?_,fun k j m R N=>?_,fun k j p R hp=>?_,fun k R N=>?_,h.one,h.fresh,fun k p hp=>?_,fun c zz aH=>?_,fun k j m R C N=>?_,fun j m b x C F hx=>?_,?_,⟨hW.same.1.trans h.same.1,hW.same.2.trans h.same.2.1,aU.trans h.same.2.2⟩⟩
 .rcases hM j m C with⟨rfl,rfl⟩|⟨A,C⟩
  .refine⟨K,H,G K H,?_,.inl ⟨aQ,?_⟩,hR⟩;·rw[bX (by simpa using aO)]
   .unfold cH;split;·rename_i c zz;cases hz rfl
    .rfl
  .obtain⟨fj,cj,x,Q,h3,Y⟩:=h.live j m C;refine⟨fj,cj,x,?_,h3,S2 aS Y hW.size.1 (aD j m A C)⟩;rw[SJ A,Q,bV,h3.woken aV]
 .obtain⟨A,N⟩:=aM j N;rw[SJ A]at hx;obtain⟨y,hy,rfl⟩:=e'.1 hx;have hq:=h.old j y C N hy;rw[iK hq,lW t (fun e=>A e.symm) _ hu];exact hq
 .have h0:=h.deaf j (C.imp (aJ j) fun x=>by rwa [aT]at x);by_cases A:j=i;·subst A;rw[Deaf_own,h0];exact deafBehind_still (fun e he=>QO (aK e he)) _
  .rw[lW t (fun e=>A e.symm) _ hu];exact h0
 .by_cases h0:0=i;·subst h0;rw[upd_same];simp
  .rw[upd_ne _ _ h0];exact h.zero
 .rcases hM j m C with⟨e1,rfl⟩|⟨A,aE⟩<;>rcases hM k m' R with⟨e2,rfl⟩|⟨T,aF⟩;·exact absurd (e1.trans e2.symm) aC
  .subst e1;obtain⟨fk,ck,_,_,_,aR⟩:=h.live k m' aF;rcases aA b x F with h5|h5;·exact h.apart j k n m' b c x aC U aF h5 L
   .have:=(R2 aR L).1;omega
  .subst e2;obtain⟨fj,cj,_,_,_,V⟩:=h.live j m aE;rcases aA c x L with h5|h5;·exact h.apart j k m n b c x aC aE U F h5
   .have:=(R2 V F).1;omega
  .exact h.apart j k m m' b c x aC aE aF F L
 .refine h.tr.own (n':={n with B:=Z,f:=f',cs:=I,l:=l'}) U hW.le rfl aA (fun b x F=>(R2 hR F).1) hW.size.1 (fun j m b c x A C F L=>h.apart i j n m b c x (fun e=>A e.symm) U C F L) (fun j m c x C L=>?_) aK;obtain⟨fj,cj,_,_,_,V⟩:=h.live j m C;exact(R2 V L).1
 .rcases hM k m N with⟨rfl,rfl⟩|⟨T,N⟩;·exact aB (h.chanM k j n R U)
  .exact aB (h.chanM k j m R N)
 .obtain⟨v,Q,Y,⟨op,h3,h4⟩,h5⟩:=h.chanS k j p R hp;have aL:=XY h3;exact⟨v,Q,aB Y,⟨op,by rw[Ap aL];exact h3,h4⟩,(b6 aL).2 h5⟩
 .exact h.job k R (N.imp (aJ k) id)
 .obtain⟨Q,Y⟩:=h.excl k p hp;refine⟨?_,Y⟩;have:k≠i:=by rintro rfl;rw[U]at Q;cases Q
  rw[upd_ne _ _ this];exact Q
 .obtain⟨k,j,m,Q,Y,h3,h4⟩:=h.wait c zz aH;by_cases T:k=i;·exact⟨k,j,_,Q,Y,h3,by rw[T,upd_same]⟩
  .exact⟨k,j,m,Q,Y,h3,by rw[upd_ne _ _ T];exact h4⟩
 .rcases hM k m N with⟨rfl,rfl⟩|⟨T,N⟩;·exact h.stops k j n R C U
  .exact h.stops k j m R C N
 .rcases hM j m C with⟨rfl,rfl⟩|⟨A,C⟩
  .rcases aA b x F with h5|h5;·exact h.base j n b x U h5 hx
   .have:=h.keep.1;omega
  .exact h.base j m b x C F hx
 .refine⟨h9 h.keep.1 hW.size.1,fun x hx=>?_⟩;rw[aG x (h8 hx h.keep.1) fun b F=>h.base i n b x U F hx];exact h.keep.2 x hx
def Co.leaver(h:Co E W0 J z M S gs w t q) {i k:Nat} {g b:Goroutine} (aE:0<i)(hm:M i=none)(hg:gs[i]?=some g) {d:Array Event} (K:∀e∈d,e.mute=true)(hq:QuitsD E.P k (deafBehind (Deaf t i) d) b):Co E W0 J z M S ((gs.map (woken E.P g b w)).setIfInBounds i b) w (t++MemOp.ofEvents i g.frame.fn g.frame.place d) (upd q i k):=by
 have u:i<gs.size:=(bO.1 hg).1;have o:∀F∈MemOp.ofEvents i g.frame.fn g.frame.place d,F.g=i:=fun F C=>by obtain⟨e,_,rfl⟩:=k8 C;rfl
 have Q:((gs.map (woken E.P g b w)).setIfInBounds i b).size=gs.size:=Qd
 have G:∀c zz,z=.park c zz->∃Z V s r tm,w.heap[c]?=some (.chan Z V false s r tm):=by intro c zz U;obtain⟨k,j,m,R,H,rfl,l⟩:=h.wait c zz U;exact⟨_,_,_,_,_,h.chanM k j m H l⟩
 have L:∀j,M j≠none->j≠i:=by rintro j A rfl;exact A hm
 refine⟨fun j m A=>?_,fun j x A D T=>?_,fun j A=>?_,h.zero,h.apart,?_,h.chanM,fun k j p hk hp=>?_,h.job,h.one,h.fresh,h.excl,h.wait,h.stops,h.base,h.keep,h.same⟩;·obtain⟨X,W,x,R,I,H⟩:=h.live j m A;have f:=L j (by rw[A];simp);refine⟨X,W,x,?_,by rw[upd_ne _ _ f];exact I,H⟩;rw[SJ f,R,bV,I.woken G]
 .by_cases f:j=i;·subst f;rw[bX (by simpa using u)]at T;obtain rfl:=R' T;rw[upd_same,Deaf_own];exact hq
  .rw[SJ f]at T;obtain⟨y,hy,rfl⟩:=e'.1 T;have O:=h.old j y A D hy;rw[iK O,upd_ne q k f,lW t (fun e=>f e.symm) _ o];exact O
 .have f:j≠i:=by
   rcases A with A|A;·exact L j A
   .rw[Q]at A;omega
  rw[lW t (fun e=>f e.symm) _ o];exact h.deaf j (A.imp id fun x=>by rwa [Q]at x)
 .refine h.tr.mute o (fun F C=>?_) fun F C=>?_;·obtain⟨e,n,rfl⟩:=k8 C;exact touch_mute (K e n)
  .obtain⟨e,n,rfl⟩:=k8 C;exact low_mute (K e n) _
 .obtain⟨v,R,H,⟨F,I,l⟩,Y⟩:=h.chanS k j p hk hp;have N:=XY I;exact⟨v,R,H,⟨F,by rw[Ap N];exact I,l⟩,(b6 N).2 Y⟩
def Co.born(h:Co E W0 J z M S gs w t q) {i:Nat} {n:Node} {g:Goroutine} {d:y1} {b:hA} (C:0<i)(o:M i=some n)(W:gs[i]?=some g)(U:Rel E n.sh n.bs n.B n.f n.cs n.l d b w):Co E W0 J z M S ((gs.map (woken E.P g (G d b) w)).setIfInBounds i (G d b)) w t (upd q i 0):=by
 have L:i<gs.size:=(bO.1 W).1;have N:((gs.map (woken E.P g (G d b) w)).setIfInBounds i (G d b)).size=gs.size:=Qd
 have O:∀c zz,z=.park c zz->∃I H s r Y,w.heap[c]?=some (.chan I H false s r Y):=by intro c zz Q;obtain⟨k,j,m,R,K,rfl,D⟩:=h.wait c zz Q;exact⟨_,_,_,_,_,h.chanM k j m K D⟩
 refine⟨fun j m v=>?_,fun j x v A V=>?_,fun j v=>?_,h.zero,h.apart,h.tr,h.chanM,h.chanS,h.job,h.one,h.fresh,h.excl,h.wait,h.stops,h.base,h.keep,h.same⟩
 .by_cases p:j=i;·subst p;rw[o]at v;cases v;refine⟨d,b,G d b,by rw[bX (by simpa using L)],.inl ⟨upd_same _ _ _,(qJ C _ _).symm⟩,U⟩
  .obtain⟨u,Z,x,R,T,K⟩:=h.live j m v;refine⟨u,Z,x,?_,by rw[upd_ne _ _ p];exact T,K⟩;rw[SJ p,R,bV,T.woken O]
 .have p:j≠i:=by rintro rfl;rw[o]at A;cases A
  rw[SJ p]at V;obtain⟨y,X,rfl⟩:=e'.1 V;have F:=h.old j y v A X;rw[iK F,upd_ne q 0 p];exact F
 .exact h.deaf j (v.imp id fun x=>by rwa [N]at x)
end
section
variable {E:Env} {W0:World} {J:aL} {z:Zs} {M:bN} {S:bW} {gs:hE} {w w':World} {t u:Trace} {q:c6} {sl:Option (Nat×Nat)}
def M7{c b s r:Nat} {f:bJ} {g h:Bool} {x:Nat} (d:x≠c):(w.setChan c b f g s r h).heap[x]?=w.heap[x]?:=by simp[World.setChan,cA (fun e:c=x=>d e.symm)]
def QQ{c b s r:Nat} {f:bJ} {g h:Bool} {o:Obj} (j:w.heap[c]?=some o):(w.setChan c b f g s r h).heap[c]?=some (.chan b f g s r h):=by have:=(bO.1 j).1;simp[World.setChan,this]
def iY{α:Type} {f:Nat->Option α} {k j:Nat} {n:α} (h:upd f k none j=some n):j≠k/\f j=some n:=by
 by_cases e:j=k;·subst e;rw[upd_same]at h;cases h
 .rw[upd_ne _ _ e]at h;exact⟨e,h⟩
def Co.status(h:Co E W0 J z M S gs w t q) {i:Nat} {g:Goroutine} (r:gs[i]?=some g):g.status=.running∨g.status=.finished∨(i=0/\∃c f l d,z=.park c f/\g=parked (G l d) #[rcase c f] (.recv false)):=by cases m:M i with
 |none=>have s:0<i:=iM fun e=>h.zero (e▸m);exact(h.old i g s m r).status.imp id .inl|some n=>
  obtain⟨l,d,x,p,j,_⟩:=h.live i n m;rw[r]at p;obtain rfl:=R' p;rcases j with⟨_,rfl⟩|⟨_,_,j,_⟩;case inr=>exact .inl j
  unfold cH;split;·rename_i c f _;exact .inr (.inr ⟨rfl,c,f,l,d,rfl,rfl⟩)
  .exact .inl rfl
def Co.offers(h:Co E W0 J z M S gs w t q)(k:Nat) {c:Nat} (p:∀zz,z≠.park c zz):partners (gs.setIfInBounds k ph) c false=[]:=by
 refine partners_nil fun j g m=>?_;rcases qF gs k j g m with⟨rfl,rfl⟩|⟨r,m⟩;·rfl
 .rcases h.status m with f|f|⟨_,v,zz,d,b,s,rfl⟩;·exact mM (by rw[f];simp) _ _
  .exact mM (by rw[f];simp) _ _
  .rw[zJ,q'];rintro rfl;exact p zz s
def U8(g:Nat)(fn:FuncId)(pos:String):MemOp.ofEvents g fn pos #[]=#[]:=by rw[ofEvents_eq];simp
def zO{i g:Nat} {y:MemOp} (h:Knows t g i)(c:y.g=g)(b:u[0]?=some y):Before (t++u) i t.size:=.inr (h.hb_new (sW _) (by rw[zK (sW _)];simpa using b) c)
def V0{i:Nat} {y:MemOp} (h:u[i]?=some y):(t++u)[t.size+i]?=some y:=by rw[zK (jF _ _)];simpa using h
def V2(t:Trace)(g:Nat)(u:Trace)(h:∀f∈u,f.act≠.mark .disable/\f.act≠.mark .enable):Deaf (t++u) g=Deaf t g:=by obtain⟨l⟩:=u;rw[Deaf_append];generalize Deaf t g=d;induction l generalizing d with
 |nil=>rfl|cons y l ih=>
  rw[List.foldl_cons];have e:deafStep g d y=d:=by
   obtain⟨m,p⟩:=h y Qd;unfold deafStep;split;·rename_i j;exact absurd j m
   .rename_i j;exact absurd j p
   .rfl
  rw[e];exact ih (fun f c=>h f (by simp at c |-;exact .inr c)) d
def Co.send(aM:E.sh=true)(h:Co E W0 J z M S gs w t q) {k m:Nat} {n:Node} {j:Job} (aJ:0<k)(R:M k=some n)(L:J k=some j)(hz:∀zz,z≠.park j.ch zz) {v:Value} (hv:j.V v) {g₂:Goroutine} (hq:QuitsD E.P m 0 (Go.Conc.served g₂ undef)) {fn:FuncId} {pos:String}:Co E W0 J z (upd M k none) (upd S k (some t.size)) (gs.setIfInBounds k (Go.Conc.served g₂ undef)) (w.setChan j.ch 1 #[v] false 1 0 false) (t++#[{g:=k,fn,pos,act:=.send j.ch 0},{g:=k,fn,pos,act:=.sendDone j.ch 0}]) (upd q k m):=by
 have W:=h.chanM k j n L R;have aA:j.ch<w.heap.size:=(bO.1 W).1;have o:∀C∈(#[{g:=k,fn,pos,act:=.send j.ch 0},{g:=k,fn,pos,act:=.sendDone j.ch 0}]:Trace),C.g=k:=Qd
 have X:∀C∈(#[{g:=k,fn,pos,act:=.send j.ch 0},{g:=k,fn,pos,act:=.sendDone j.ch 0}]:Trace),C.act.touch?=none:=by simp[MemAct.touch?]
 have hl:∀C∈(#[{g:=k,fn,pos,act:=.send j.ch 0},{g:=k,fn,pos,act:=.sendDone j.ch 0}]:Trace),C.act.low w.heap.size:=by simp[MemAct.low,aA]
 have Y:∀C∈(#[{g:=k,fn,pos,act:=.send j.ch 0},{g:=k,fn,pos,act:=.sendDone j.ch 0}]:Trace),C.act≠.mark .disable/\C.act≠.mark .enable:=Qd
 have l:(#[{g:=k,fn,pos,act:=.send j.ch 0},{g:=k,fn,pos,act:=.sendDone j.ch 0}]:Trace)[0]?=some {g:=k,fn,pos,act:=.send j.ch 0}:=rfl;generalize (#[{g:=k,fn,pos,act:=.send j.ch 0},{g:=k,fn,pos,act:=.sendDone j.ch 0}]:Trace)=u at o X hl Y l |-;obtain⟨fk,ck,gk,aH,aP,aO⟩:=h.live k n R;have aK:k<gs.size:=(bO.1 aH).1;have hd:Deaf t k=0:=h.deaf k (.inl (by rw[R];simp));have aB:∀{i:Nat} {m:Node} {b x:Nat},M i=some m->m.B b x->x≠j.ch:=by intro i m b x r Z e;exact h.chan_free r W b (e▸Z)
 have aN:=h.fresh k j L;have U:=h.tr.mute o X hl;have F:(w.setChan j.ch 1 #[v] false 1 0 false).heap.size=w.heap.size:=by simp[World.setChan]
 refine⟨fun i m r=>?_,fun i x r s I=>?_,fun i r=>?_,?_,fun a b m m' c d x aG T Z=>h.apart a b m m' c d x aG (iY T).2 (iY Z).2,⟨U.clean,by rw[F];exact U.seen,fun i a T s x m I=>U.known i a T s x m (iY I).2,fun i a T s=>?_⟩,fun i H m r s=>?_,fun i H p r N=>?_,fun i r s=>?_,h.one,h.fresh,fun i p N=>?_,fun c zz aF=>?_,fun i H m r aI s=>h.stops i H m r aI (iY s).2,fun i m b x s=>h.base i m b x (iY s).2,?_,h.same⟩;·obtain⟨f,r⟩:=iY r;obtain⟨fi,ci,x,A,K,y⟩:=h.live i m r;exact⟨fi,ci,x,by rw[cA (fun e=>f e.symm)];exact A,by rw[upd_ne _ _ f];exact K,S2 aM y (by rw[F];exact sW _) fun b x Z=>M7 (aB r Z)⟩
 .by_cases f:i=k
  .subst f;rw[bX aK]at I;obtain rfl:=R' I;have e:Deaf (t++u) i=0:=by rw[V2 t i u Y];exact hd
   rw[upd_same,e];exact hq
  .rw[cA (fun e=>f e.symm)]at I;rw[upd_ne _ _ f]at s;have:=h.old i x r s I;rw[upd_ne _ _ f,lW t (fun e=>f e.symm) _ o];exact this
 .have f:i≠k:=by
   rintro rfl;rcases r with r|r;·rw[upd_same]at r;exact r rfl
   .simp at r;omega
  rw[lW t (fun e=>f e.symm) _ o];refine h.deaf i (r.imp (fun x=>?_) fun x=>by simpa using x);rwa [upd_ne _ _ f]at x
 .rw[upd_ne _ _ Qa];exact h.zero
 .obtain⟨C,aL,O,_⟩:=oH T;have aD:i<t.size/\touchAt t i=some a:=by
   rcases jD aL with⟨A,y⟩|⟨_,y⟩;·exact⟨A,by rw[jE y];exact O⟩
   .rw[X C y]at O;cases O
  rcases h.tr.hand i a aD.2 s with x|⟨Q,m,A,y⟩|⟨Q,p,A,y⟩;·exact .inl (x.app u)
  .by_cases f:Q=k;·subst f;exact .inr (.inr ⟨Q,t.size,upd_same _ _ _,zO y rfl l⟩)
   .exact .inr (.inl ⟨Q,m,by rw[upd_ne _ _ f];exact A,y.app u⟩)
  .refine .inr (.inr ⟨Q,p,?_,y.app u⟩);have:Q≠k:=by rintro rfl;rw[(h.excl Q p A).1]at R;cases R
   rw[upd_ne _ _ this];exact A
 .obtain⟨f,s⟩:=iY s;rw[M7];·exact h.chanM i H m r s
  .exact fun e=>f (h.one i k H j r L e)
 .by_cases f:i=k
  .subst f;rw[upd_same]at N;cases N;rw[L]at r;cases r;refine⟨v,hv,QQ W,⟨_,by have:=V0 (t:=t) l;simpa using this,rfl⟩,?_⟩;refine⟨i,?_,?_⟩;·have:=V0 (t:=t) l;simp only[w7]at this;simp[Trace.g?,this]
   .rw[Ao (sW _)];exact hd
  .rw[upd_ne _ _ f]at N;obtain⟨v',A,y,⟨C,K,D⟩,h5⟩:=h.chanS i H p r N;have aE:=XY K;exact⟨v',A,by rw[M7 fun e=>f (h.one i k H j r L e)];exact y,⟨C,by rw[Ap aE];exact K,D⟩,(b6 aE).2 h5⟩
 .by_cases f:i=k;·subst f;exact⟨j,L⟩
  .rw[upd_ne _ _ f,upd_ne _ _ f]at s;exact h.job i r s
 .by_cases f:i=k;·subst f;exact⟨upd_same _ _ _,aJ⟩
  .rw[upd_ne _ _ f]at N;rw[upd_ne _ _ f];exact h.excl i p N
 .obtain⟨i,H,m,A,y,K,D⟩:=h.wait c zz aF;refine⟨i,H,m,A,y,K,?_⟩;have:i≠k:=by rintro rfl;rw[L]at y;cases y;exact hz zz (K▸aF)
  rw[upd_ne _ _ this];exact D
 .rw[F];exact⟨h.keep.1,fun x I=>by rw[M7 Qa];exact h.keep.2 x I⟩
end
section
variable {E:Env} {W0:World} {J:aL} {z:Zs} {M:bN} {S:bW} {gs:hE} {w w':World} {t u:Trace} {q:c6} {sl:Option (Nat×Nat)}
def Zm:∀(l:List MemOp) {t:Trace} {b:Nat},Tr M S b t->(∀c∈l,c.act.touch?=none/\c.act.low b)->Tr M S b (t++l.toArray)
 |[],t,b,h,_=>by simpa using h|x::l,t,b,h,hl=>by
  have e:t++(x::l).toArray=(t++#[x])++l.toArray:=Qd
  rw[e];exact Zm l (h.mute (g:=x.g) Qd (by simp[(hl x Qd).1]) (by simp[(hl x Qd).2])) fun c f=>hl c (by simp[f])
def oI(j:∀h∈u,h.act.touch?=none) {i:Nat} {a:Touch} (b:touchAt (t++u) i=some a):touchAt t i=some a:=by
 obtain⟨h,g,c,_⟩:=oH b;rcases jD g with⟨m,f⟩|⟨_,f⟩;·rw[jE f];exact c
 .rw[j h f]at c;cases c
def zP{c p r g:Nat} {x y:MemOp} (d:t[p]?=some x)(f:x.act=.send c 0)(h:t.heard p)(v:t[r]?=some y)(j:y.act=.recvDone c 0)(m:y.g=g)(s:t.heard r) {i:Nat} (b:Before t i p):Knows t g i:=⟨r,y,v,m,.inr (b.hb (.single (.inr ⟨.handOver (c:=c) (k:=0) (by simp[Trace.act?,d,f]) (by simp[Trace.act?,v,j]),h,s⟩)))⟩
def nE{g i:Nat} {y:MemOp} (h:t[i]?=some y)(f:y.g=g)(c:t.deaf g i=0):t.heard i:=⟨g,by simp[Trace.g?,h,f],c⟩
def Co.meet(aO:E.sh=true) {k m:Nat} {n I:Node} {j:Job} {zz:Value} (h:Co E W0 J (.park j.ch zz) M S gs w t q)(bD:0<k)(hM:M k=some n)(Z:M 0=some I)(hj:J k=some j) {v:Value} (hv:bG 8 v=true) {Y:y1} {X:hA} (aT:gs[0]?=some (parked (G Y X) #[rcase j.ch zz] (.recv false))) {g₂:Goroutine} (hq:QuitsD E.P m 0 (Go.Conc.served g₂ undef)) {fn fn':FuncId} {pos pos':String}:Co E W0 J .run (upd (upd M k none) 0 (some {I with f:=I.f.finish v})) S ((gs.setIfInBounds 0 (G (Y.finish v) X)).setIfInBounds k (Go.Conc.served g₂ undef)) (w.setChan j.ch 1 #[] false 1 1 false)
   (t++#[{g:=k,fn,pos,act:=.send j.ch 0},{g:=0,fn:=fn',pos:=pos',act:=.recv j.ch 0 1},{g:=k,fn,pos,act:=.sendDone j.ch 0},{g:=0,fn:=fn',pos:=pos',act:=.recvDone j.ch 0}]) (upd q k m):=by
 have hc:=h.chanM k j n hj hM;have aH:j.ch<w.heap.size:=(bO.1 hc).1;have hk:k≠0:=Qa
 obtain⟨fk,ck,gk,aU,bF,bE⟩:=h.live k n hM;have aW:k<gs.size:=(bO.1 aU).1;have aL:0<gs.size:=Qa
 have aJ:Deaf t k=0:=h.deaf k (.inl (by rw[hM];simp));have aI:Deaf t 0=0:=h.deaf 0 (.inl (by rw[Z];simp));have aE:∀{i:Nat} {m:Node} {b x:Nat},M i=some m->m.B b x->x≠j.ch:=by intro i m b x s o e;exact h.chan_free s hc b (e▸o)
 have bC:=h.fresh k j hj;have R:(w.setChan j.ch 1 #[] false 1 1 false).heap.size=w.heap.size:=by simp[World.setChan]
 generalize Q:({g:=k,fn,pos,act:=.send j.ch 0}:MemOp)=H;generalize aC:({g:=0,fn:=fn',pos:=pos',act:=.recv j.ch 0 1}:MemOp)=K;generalize aD:({g:=k,fn,pos,act:=.sendDone j.ch 0}:MemOp)=L;generalize T:({g:=0,fn:=fn',pos:=pos',act:=.recvDone j.ch 0}:MemOp)=N;have hT:Tr M S w.heap.size (t++#[H,K,L,N]):=Zm [H,K,L,N] h.tr (by simp[<-Q,<-aC,<-aD,<-T,MemAct.touch?,MemAct.low,aH]);have hn:∀op∈(#[H,K,L,N]:Trace),op.act.touch?=none:=by simp[<-Q,<-aC,<-aD,<-T,MemAct.touch?]
 have aX:∀op∈(#[H,K,L,N]:Trace),op.act≠.mark .disable/\op.act≠.mark .enable:=by simp[<-Q,<-aC,<-aD,<-T]
 have aY:∀op∈(#[H,K,L]:Trace),op.act≠.mark .disable/\op.act≠.mark .enable:=by simp[<-Q,<-aC,<-aD]
 have g0:(t++#[H,K,L,N])[t.size]?=some H:=by have:=V0 (t:=t) (u:=#[H,K,L,N]) (i:=0) rfl;rwa [w7]at this
 have g3:(t++#[H,K,L,N])[t.size+3]?=some N:=V0 (t:=t) (u:=#[H,K,L,N]) (i:=3) rfl;have e3:t++#[H,K,L,N]=(t++#[H,K,L])++#[N]:=Qd
 have d3:(t++#[H,K,L,N]).deaf 0 (t.size+3)=0:=by
  rw[e3,Ao Qd];have:(t++#[H,K,L]).size=t.size+3:=Qd
  rw[<-this];exact(V2 t 0 _ aY).trans aI
 have d0:(t++#[H,K,L,N]).deaf k t.size=0:=by rw[Ao (sW _)];exact aJ
 have hD:∀g,Deaf (t++#[H,K,L,N]) g=Deaf t g:=fun g=>V2 t g _ aX;have aF:∀i,Before (t++#[H,K,L,N]) i t.size->Knows (t++#[H,K,L,N]) 0 i:=fun i s=>zP (c:=j.ch) g0 (by rw[<-Q]) (nE g0 (by rw[<-Q]) d0) g3 (by rw[<-T]) (by rw[<-T]) (nE g3 (by rw[<-T]) d3) s;have hS:∀i p,S i=some p->i≠k:=by rintro i p W rfl;rw[(h.excl i p W).1]at hM;cases hM
 obtain⟨aR,aP,x',aK,aG,aZ⟩:=h.live 0 I Z;rw[aT]at aK;rcases aG with⟨aN,aG⟩|⟨bB,_⟩;case inr=>omega
 have he:=(R' aK).trans aG;have aQ:Y=aR/\X=aP:=by simp only[cH,parked,G,bS,bQ]at he;exact⟨he.1,he.2⟩
 obtain⟨rfl,rfl⟩:=aQ;have aB:∀i m,upd (upd M k none) 0 (some {I with f:=I.f.finish v}) i=some m->(i=0/\m={I with f:=I.f.finish v})∨(i≠0/\i≠k/\M i=some m):=by
  intro i m s;by_cases A:i=0;·subst A;rw[upd_same]at s;exact .inl ⟨rfl,(R' s).symm⟩
  .rw[upd_ne _ _ A]at s;exact .inr ⟨A,(iY s).1,(iY s).2⟩
 have aA:∀i m,upd (upd M k none) 0 (some {I with f:=I.f.finish v}) i=some m->∃m',M i=some m'/\m'.B=m.B/\m'.sh=m.sh:=by
  intro i m s;rcases aB i m s with⟨rfl,rfl⟩|⟨_,_,s⟩;·exact⟨I,Z,rfl,rfl⟩
  .exact⟨m,s,rfl,rfl⟩
 refine⟨fun i m s=>?_,fun i x s F D=>?_,fun i s=>?_,by rw[upd_same];simp,fun a b m m' c d x aS ha o hc hd=>?_,⟨hT.clean,by rw[R];exact hT.seen,fun i a ha F x m D=>?_,fun i a ha F=>?_⟩,fun i U m s F=>?_,fun i U p s W=>?_,fun i s F=>?_,h.one,h.fresh,fun i p W=>?_,(by intro c zz bA;cases bA),fun i U m s aV F=>?_,fun i m b x F o D=>?_,?_,h.same⟩
 .rcases aB i m s with⟨rfl,rfl⟩|⟨A,r,s⟩
  .refine⟨Y.finish v,X,_,?_,.inl ⟨by rw[upd_ne _ _ hk.symm];exact aN,rfl⟩,?_⟩;·rw[cA hk,bX aL];rfl
   .have C:Rel E I.sh I.bs I.B I.f I.cs I.l Y X (w.setChan j.ch 1 #[] false 1 1 false):=S2 aO aZ (by rw[R];exact sW _) fun b x o=>M7 (aE Z o);exact⟨C.st.top (C.st.head.finish (VR.closed 8 v hv)) (Blk.le_refl _) (gF _ _),C.wr,C.low⟩
  .obtain⟨fi,ci,x,O,V,C⟩:=h.live i m s;refine⟨fi,ci,x,?_,?_,S2 aO C (by rw[R];exact sW _) fun b x o=>M7 (aE s o)⟩;·rw[cA (fun e=>r e.symm),cA (fun e=>A e.symm),O]
   .rw[upd_ne _ _ r];unfold jG at V |-;rw[qJ (iM A)]at V |-;exact V
 .have A:i≠0:=Qa
  rw[upd_ne _ _ A]at F;by_cases r:i=k;·subst r;rw[bX (by simpa using aW)]at D;obtain rfl:=R' D;rw[upd_same,hD,aJ];exact hq
  .rw[cA (fun e=>r e.symm),cA (fun e=>A e.symm)]at D;rw[upd_ne _ _ r]at F;rw[upd_ne _ _ r,hD];exact h.old i x s F D
 .rw[hD];by_cases A:i=0;·rw[A];exact aI
  .refine h.deaf i (s.imp (fun x=>?_) fun x=>by simpa using x);rw[upd_ne _ _ A]at x;by_cases r:i=k;·subst r;rw[upd_same]at x;exact absurd rfl x
   .rwa [upd_ne _ _ r]at x
 .obtain⟨m1,O,C,V⟩:=aA a m ha;obtain⟨m2,h4,h5,h6⟩:=aA b m' o;have:=h.apart a b m1 m2 c d x aS O h4 (C▸hc) (h5▸hd);rw[V,h6]at this;exact this
 .obtain⟨m1,O,C,V⟩:=aA x m D;refine(hT.known i a ha F x m1 O).imp id fun hf b y o hy=>?_;have:=hf b y (by rw[C];exact o) hy;rw[V]at this;exact this
 .rcases h.tr.hand i a (oI hn ha) F with x|⟨i',m,O,C⟩|⟨i',p,O,C⟩;·exact .inl (x.app _)
  .by_cases r:i'=k;·subst r;exact .inl (aF i (zO (y:=H) C (by rw[<-Q]) rfl))
   .by_cases A:i'=0;·subst A;exact .inl (C.app _)
    .exact .inr (.inl ⟨i',m,by rw[upd_ne _ _ A,upd_ne _ _ r];exact O,C.app _⟩)
  .exact .inr (.inr ⟨i',p,O,C.app _⟩)
 .rcases aB i m F with⟨rfl,rfl⟩|⟨A,r,F⟩;·have h0:=h.chanM 0 U I s Z;rw[M7 fun e=>hk (h.one 0 k U j s hj e).symm];exact h0
  .rw[M7 fun e=>r (h.one i k U j s hj e)];exact h.chanM i U m s F
 .obtain⟨v',O,C,⟨op,V,h4⟩,h5⟩:=h.chanS i U p s W;have aM:=XY V;exact⟨v',O,by rw[M7 fun e=>hS i p W (h.one i k U j s hj e)];exact C,⟨op,by rw[Ap aM];exact V,h4⟩,(b6 aM).2 h5⟩
 .refine h.job i s (F.imp (fun x=>?_) id);rw[upd_ne _ _ (show i≠0 by omega)]at x;by_cases r:i=k;·subst r;rw[upd_same]at x;exact absurd rfl x
  .rwa [upd_ne _ _ r]at x
 .obtain⟨O,C⟩:=h.excl i p W;exact⟨by rw[upd_ne _ _ (show i≠0 by omega),upd_ne _ _ (hS i p W)];exact O,C⟩
 .rcases aB i m F with⟨rfl,rfl⟩|⟨_,_,F⟩;·omega
  .exact h.stops i U m s aV F
 .obtain⟨m1,O,C,V⟩:=aA i m F;rw[<-V];exact h.base i m1 b x O (by rw[C];exact o) D
 .rw[R];exact⟨h.keep.1,fun x D=>by rw[M7 Qa];exact h.keep.2 x D⟩
end
end Go.Twin
namespace Go.Twin
open Go.Conc
open Go.ConcN (sumTo upd sumTo_upd upd_ne upd_same)
section
variable {E:Env} {sh:hN} {bs':hA} {Stop:aH}
def QR(V:E.Fine) {B:Blk} {f u:y1} {cs n:hA} {l w:World} (a:Rel E sh bs' B f cs l u n w)(z:f.mode=.run->Chk E f) (H:∀t d,∃s c l' es,stepG E.P true (G f cs) (l.re t d)=.go (G s c) l' es)(I:∀t d s c l' es,stepG E.P true (G f cs) (l.re t d)=.go (G s c) l' es->¬dU E.P s c l') (O:Bool):∃t d s c l' es v p k r A,stepG E.P true (G f cs) (l.re t d)=.go (G s c) l' es/\stepG E.P O (G u n) w=.go (G v p) k r/\Rel E sh bs' A s c l' v p k/\Went sh B l w A l' k/\k.tape=w.tape/\∀e∈r,bH ⟨sh,fun _=>True⟩ A e:=by
 let t:Nat->Question->Nat:=fun j q=>w.tape (w.drawn+j) q;obtain⟨s,c,l',es,g⟩:=H t 0;have N:=I _ _ _ _ _ _ g;have K:¬bC [ZJ E.P] f cs:=by
  intro K;rcases qD (l:=l.re t 0) a.st.head.kind.1 K with⟨o,x,es,y⟩|⟨L,C,U,Q,y,F⟩;·rw[y]at g;cases g
  .rw[y]at g;simp only[A7,G,bS,bQ]at g;obtain⟨⟨rfl,rfl⟩,rfl,_⟩:=g;exact N F
 have M:WR E ⟨sh,fun _=>True⟩ B (l.re t 0) w:=a.wr.retape rfl rfl rfl fun i q _=>by show w.tape (w.drawn+(0+i)) q=w.tape (w.drawn+i) q;rw[m']
 have:=C6 V a.st M a.low true O z (C8 a.st K) (.inl fun _=>trivial);rw[g]at this;rcases this with⟨L,C,y,J⟩|⟨L,C,v,p,k,r,A,S,y,F,m,R,T⟩;·exfalso;simp only[G,bS,bQ]at y;obtain⟨rfl,rfl⟩:=y;exact N (.inl J)
 .simp only[G,bS,bQ]at y;obtain⟨rfl,rfl⟩:=y;exact⟨t,0,s,c,l',es,v,p,k,r,A,g,F,⟨R,m.wr.retape rfl rfl rfl fun _ _ h=>h.elim,fun b Z=>h8 (a.low b Z) m.size.2.1⟩,⟨m.le,m.al,m.keep,m.size,⟨m.same.1,m.same.2.1⟩,⟨m.lone.1,m.lone.2.1⟩,m.lkeep,m.cov⟩,m.same.2.2.1,fun e D=>m.ev e (T e D)⟩
end
inductive W (E:Env):(Nat->Option Node)->Prop|mk (M:bN)(h:∀i n,M i=some n->n.stop n.f n.cs n.l∨((n.f.mode=.run->Chk E n.f)/\∀t d,∃f' cs' l' es,stepG E.P true (G n.f n.cs) (n.l.re t d)=.go (G f' cs') l' es))(hr:∀i n,M i=some n->n.stop n.f n.cs n.l->W E (upd M i none))(hs:∀i n t d f' cs' l' es B',M i=some n->¬n.stop n.f n.cs n.l->stepG E.P true (G n.f n.cs) (n.l.re t d)=.go (G f' cs') l' es->W E (upd M i (some {n with B:=B',f:=f',cs:=cs',l:=l'}))):W E M
section
variable {E:Env}
def mF{α:Type} (f:Nat->α) {i j:Nat} (h:i≠j)(x y:α):upd (upd f i x) j y=upd (upd f j y) i x:=by
 funext k;unfold upd;by_cases g:k=j
 .by_cases c:k=i;·omega
  .simp[g,c];omega
 .by_cases c:k=i;·simp[g,c];exact fun e=>absurd e h
  .simp[g,c]
def dW{α:Type} (f:Nat->α)(i:Nat)(x y:α):upd (upd f i x) i y=upd f i y:=by funext k;unfold upd;by_cases c:k=i<;>simp[c]
def vX{α:Type} (f:Nat->α)(i:Nat)(x:α)(h:f i=x):upd f i x=f:=by
 funext k;unfold upd;by_cases c:k=i;·simp[c,h]
 .simp[c]
def W.empty:W E (fun _=>none):=.mk _ (fun i n h=>by cases h) (fun i n h=>by cases h) fun i n t d j c a g f h=>by cases h
def W.drop{M:bN} (h:W E M)(i:Nat):W E (upd M i none):=by induction h with|mk M h hr hs ihr ihs=>
  have r:∀j n,upd M i none j=some n->j≠i/\M j=some n:=fun j n=>iY;refine .mk _ (fun j n f=>h j n (r j n f).2) (fun j n f c=>?_) fun j n t d x g o v s f y c=>?_;·obtain⟨m,p⟩:=r j n f;rw[mF M (fun e=>m e.symm)];exact ihr j n p c
  .obtain⟨m,p⟩:=r j n f;rw[mF M (fun e=>m e.symm)];exact ihs j n t d x g o v s p y c
def W.add{o:aH} {f:y1} {cs:hA} {l:World} (D:LG E o f cs l) {i:Nat}:∀{M:bN},W E M->M i=none->∀(sh:hN)(bs:hA)(B:Blk),W E (upd M i (some ⟨sh,bs,B,f,cs,l,o⟩)):=by induction D with
 |stop f cs l hst=>intro M C;induction C with|mk M h hr hs ihr ihs=>
   intro r sh bs B;have v:∀j n,upd M i (some ⟨sh,bs,B,f,cs,l,o⟩) j=some n->(j=i/\n=⟨sh,bs,B,f,cs,l,o⟩)∨(j≠i/\M j=some n):=by
    intro j n c;by_cases e:j=i;·subst e;rw[upd_same]at c;exact .inl ⟨rfl,(R' c).symm⟩
    .rw[upd_ne _ _ e]at c;exact .inr ⟨e,c⟩
   refine .mk _ (fun j n c=>?_) (fun j n c s=>?_) fun j n t d A m q y x c s p=>?_
   .rcases v j n c with⟨rfl,rfl⟩|⟨_,c⟩;·exact .inl hst
    .exact h j n c
   .rcases v j n c with⟨rfl,rfl⟩|⟨g,c⟩;·rw[dW,vX M j none r];exact .mk M h hr hs
    .rw[mF M (fun e=>g e.symm)];exact ihr j n c s (by rw[upd_ne _ _ (fun e=>g e.symm)];exact r) sh bs B
   .rcases v j n c with⟨rfl,rfl⟩|⟨g,c⟩;·exact absurd hst s
    .rw[mF M (fun e=>g e.symm)];exact ihs j n t d A m q y x c s p (by rw[upd_ne _ _ (fun e=>g e.symm)];exact r) sh bs B
 |step f cs l hc hg hss ih=>intro M C;induction C with|mk M h hr hs ihr ihs=>
   intro r sh bs B;have v:∀j n,upd M i (some ⟨sh,bs,B,f,cs,l,o⟩) j=some n->(j=i/\n=⟨sh,bs,B,f,cs,l,o⟩)∨(j≠i/\M j=some n):=by
    intro j n c;by_cases e:j=i;·subst e;rw[upd_same]at c;exact .inl ⟨rfl,(R' c).symm⟩
    .rw[upd_ne _ _ e]at c;exact .inr ⟨e,c⟩
   refine .mk _ (fun j n c=>?_) (fun j n c s=>?_) fun j n t d A m q y x c s p=>?_
   .rcases v j n c with⟨rfl,rfl⟩|⟨_,c⟩;·exact .inr ⟨hc,hg⟩
    .exact h j n c
   .rcases v j n c with⟨rfl,rfl⟩|⟨g,c⟩;·rw[dW,vX M j none r];exact .mk M h hr hs
    .rw[mF M (fun e=>g e.symm)];exact ihr j n c s (by rw[upd_ne _ _ (fun e=>g e.symm)];exact r) sh bs B
   .rcases v j n c with⟨rfl,rfl⟩|⟨g,c⟩;·rw[dW];exact ih t d A m q y p (.mk M h hr hs) r sh bs x
    .rw[mF M (fun e=>g e.symm)];exact ihs j n t d A m q y x c s p (by rw[upd_ne _ _ (fun e=>g e.symm)];exact r) sh bs B
def W.not_lost{M:bN} (L:W E M):(∀i n,M i=some n->Halts n.stop)->∀i n,M i=some n->¬dU E.P n.f n.cs n.l:=by induction L with|mk M h hr hs ihr ihs=>
  intro y i n p F;by_cases c:n.stop n.f n.cs n.l;·exact Z9 (y i n p) c F
  .rcases h i n p with v|⟨_,v⟩;·exact c v
   .have A:dU E.P n.f n.cs (n.l.re n.l.tape n.l.drawn):=F;obtain⟨Q,H,a,O,C⟩:=v n.l.tape n.l.drawn;rcases lost_step A with⟨o,w,g,x⟩|⟨I,s,N,g,x,K⟩;·rw[x]at C;cases C
    .refine ihs i n n.l.tape n.l.drawn I s N g n.B p c x (fun j m r=>?_) i _ (upd_same _ _ _) K;by_cases e:j=i;·subst e;rw[upd_same]at r;cases r;exact y j n p
     .rw[upd_ne _ _ e]at r;exact y j m r
end
variable {M M' M'':bN}
def oJ(P:aA)(a:hS)(e:hE)(w:World)(sl:Option (Nat×Nat))(t:Trace)(i:Nat):Prop:=∃c d f b,runT P (crowd e w sl) i=(.next (crowd c d f),b)/\Fin P a c d f (t++b)
def eP(E:Env)(j:Job):Prop:=∀{sh:hN} {B:Blk} {f:y1} {cs:hA} {l:World} {fa:y1} {ca:hA} {w:World},j.stop f cs l->Rel E sh j.bs B f cs l fa ca w->∃v g c m,j.V v/\bG 8 v=true/\stepG E.P false (G fa ca) w=.comm c #[scase j.ch v g] true .send w #[]/\QuitsD E.P m 0 (Go.Conc.served c undef)
structure Same (z:Zs)(M M':bN):Prop where
 node:∀i n',M' i=some n'->∃n,M i=some n/\n'.sh=n.sh/\n'.bs=n.bs/\n'.stop=n.stop/\n.B.le n'.B
 zero:z≠.run->M' 0=M 0
def Same.refl(z:Zs)(M:bN):Same z M M:=⟨fun i n h=>⟨n,h,rfl,rfl,rfl,Blk.le_refl _⟩,fun _=>rfl⟩
def Same.trans{z:Zs} (h:Same z M M')(k:Same z M' M''):Same z M M'':=⟨fun i n A=>by obtain⟨C,r,s,v,x,y⟩:=k.node i n A;obtain⟨F,f,g,j,m,p⟩:=h.node i C r;exact⟨F,f,s.trans g,v.trans j,x.trans m,Blk.le_trans p y⟩,fun c=>(k.zero c).trans (h.zero c)⟩
def upd_some{α:Type} {f:Nat->Option α} {k j:Nat} {x n:α} (h:upd f k (some x) j=some n):(j=k/\n=x)∨(j≠k/\f j=some n):=by
 by_cases e:j=k;·subst e;rw[upd_same]at h;exact .inl ⟨rfl,(R' h).symm⟩
 .rw[upd_ne _ _ e]at h;exact .inr ⟨e,h⟩
def lU(J:aL)(M:bN)(w:World)(M':bN)(a:World):Prop:=w.heap.size<=a.heap.size/\∀x,x<w.heap.size->(∀i n b,M i=some n->n.B b x->n.sh b)->(∀k j,J k=some j->j.ch≠x)->a.heap[x]?=w.heap[x]?/\∀i n b,M' i=some n->n.B b x->n.sh b
def lU.refl(J:aL)(M:bN)(w:World):lU J M w M w:=⟨sW _,fun x _ h _=>⟨rfl,h⟩⟩
def lU.trans{J:aL} {w w' c:World} (h:lU J M w M' w')(k:lU J M' w' M'' c):lU J M w M'' c:=⟨h9 h.1 k.1,fun x g s f=>by obtain⟨j,m⟩:=h.2 x g s f;obtain⟨p,r⟩:=k.2 x (h8 g h.1) m f;exact⟨p.trans j,r⟩⟩
def Un(U:hN)(M:bN)(S:bW):Prop:=∀k,0<k->(U k↔(M k≠none∨S k≠none))
section
variable {E:Env} {W0:World} {J:aL} {U:hN} {Post:hS}
def zQ(hG:E.Fine)(aM:E.sh=true)(hJ:∀k j,J k=some j->eP E j) {M:bN} (hW:W E M):∀{z:Zs} {S:bW} {a:hE} {w:World} {sl:Option (Nat×Nat)} {t:Trace} {q:c6},Co E W0 J z M S a w t q->(∀i n,M i=some n->Halts n.stop)->Un U M S->(∀{M':bN} {D:bW} {s:hE} {w':World} {sl':Option (Nat×Nat)} {X:Trace} {q':c6} {n':Node} {fa:y1} {ca:hA},z=.run->Co E W0 J .run M' D s w' X q'->W E (upd M' 0 none)->Same z M M'->lU J M w M' w'->Un U M' D->s.size=a.size->M' 0=some n'->n'.stop n'.f n'.cs n'.l->s[0]?=some (G fa ca)->q' 0=0->Rel E n'.sh n'.bs n'.B n'.f n'.cs n'.l fa ca w'->oJ E.P Post s w' sl' X 0)->(∀{M':bN} {D:bW} {s:hE} {w':World} {sl':Option (Nat×Nat)} {X:Trace} {q':c6} {n:Node} {v zz:Value} {k:Nat} {j:Job},z=.park j.ch zz->J k=some j->j.V v->M 0=some n->Same z M (upd M' 0 (some n))->Co E W0 J .run M' D s w' X q'->W E (upd M' 0 none)->M' 0=some {n with f:=n.f.finish v}->M' k=none->(∀x,0<x->(D x=none->M' x=none->¬U x∨x=k)/\((M' x≠none∨D x≠none)->U x/\x≠k))->s.size=a.size-> w.heap.size<=w'.heap.size->Fin E.P Post s w' sl' X)->Fin E.P Post a w sl t:=by induction hW with|mk M h hr hs ihr ihs=>
  have bH:∀(N:Nat) {z:Zs} {S:bW} {a:hE} {w:World} {sl:Option (Nat×Nat)} {t:Trace} {q:c6},sumTo a.size q=N->Co E W0 J z M S a w t q->(∀i n,M i=some n->Halts n.stop)->Un U M S->(∀{M':bN} {D:bW} {s:hE} {w':World} {sl':Option (Nat×Nat)} {X:Trace} {q':c6} {n':Node} {fa:y1} {ca:hA},z=.run->Co E W0 J .run M' D s w' X q'->W E (upd M' 0 none)->Same z M M'->lU J M w M' w'->Un U M' D->s.size=a.size->M' 0=some n'->n'.stop n'.f n'.cs n'.l->s[0]?=some (G fa ca)->q' 0=0->Rel E n'.sh n'.bs n'.B n'.f n'.cs n'.l fa ca w'->oJ E.P Post s w' sl' X 0)->(∀{M':bN} {D:bW} {s:hE} {w':World} {sl':Option (Nat×Nat)} {X:Trace} {q':c6} {n:Node} {v zz:Value} {k:Nat} {j:Job},z=.park j.ch zz->J k=some j->j.V v->M 0=some n->Same z M (upd M' 0 (some n))->Co E W0 J .run M' D s w' X q'->W E (upd M' 0 none)->M' 0=some {n with f:=n.f.finish v}->M' k=none->(∀x,0<x->(D x=none->M' x=none->¬U x∨x=k)/\((M' x≠none∨D x≠none)->U x/\x≠k))->s.size=a.size-> w.heap.size<=w'.heap.size->Fin E.P Post s w' sl' X)->Fin E.P Post a w sl t:=by intro N;induction N using Nat.strongRecOn with|ind N ihN=>
    intro z S a w sl t q hN I hS Y K0 K1;have aX:∀g∈a,awake g:=by
     intro g hg;obtain⟨i,K,rfl⟩:=qB.1 hg;rcases I.status (e3 K)with Q|Q|⟨_,c,zz,fa,ca,_,Q⟩;·exact awake_of (.inl Q)
     .exact awake_of (.inr (.inr Q))
     .exact awake_of (.inr (.inl (by rw[Q];rfl)))
    have aS:∃(i:Nat)(g:Goroutine),a[i]?=some g/\g.status=.running:=by
     have aJ:∀(i:Nat)(n:Node),M i=some n->(i=0->z=.run)->∃(i:Nat)(g:Goroutine),a[i]?=some g/\g.status=.running:=by
      intro i n K hz;obtain⟨fa,ca,g,Q,h2,_⟩:=I.live i n K;refine⟨i,g,Q,?_⟩;rcases h2 with⟨_,rfl⟩|⟨_,_,h2,_⟩
      .unfold cH;split;·cases hz rfl
       .rfl
      .exact h2
     cases hz:z with
     |run=>cases H:M 0 with
      |none=>exact absurd H I.zero|some n=>exact aJ 0 n H fun _=>hz
     |park c zz=>obtain⟨k,j,n,Q,_,_,h4⟩:=I.wait c zz hz;exact aJ k n h4 fun e=>Qa
    obtain⟨i,g,d,sl',K,aC,aE⟩:=crowd_pick (P:=E.P) (w:=w) (sl:=sl) aX aS;have aO:i<a.size:=(bO.1 K).1;replace I:=I.at_ d;cases H:M i with
    |none=>
     have F:0<i:=iM fun e=>I.zero (e▸H);have hq:=I.old i g F H K;have aD:(i==0)=false:=Qk
     cases aL:q i with|zero=>rw[aL]at hq;rw[hq.1]at aC;cases aC|succ k=>
      rw[aL]at hq;rcases hq with⟨hf,_⟩|⟨_,g',es,bB,R,bD⟩;·rw[hf]at aC;cases aC
      have r:=U7 (P:=E.P) (sl:=sl') (i:=i) K (by rw[aD];exact R (w.at d));have aB:((a.map (woken E.P g g' (w.at d))).setIfInBounds i g').size=a.size:=Qd
      have aT:sumTo a.size (upd q i k)+(k+1)=sumTo a.size q+k:=by have:=sumTo_upd q k id aO;simpa [aL] using this
      exact tD (aE.trans r) (ihN (sumTo a.size (upd q i k)) Qa (by rw[aB]) (I.leaver F H K bB bD) hS Y (fun T o u O ek eu es=>K0 T o u O ek eu (es.trans aB)) fun T o u O e5 e6 e7 e8 e9 Z es=>K1 T o u O e5 e6 e7 e8 e9 Z (es.trans aB))
    |some n=>
     obtain⟨fa,ca,g1,Q,h2,hR⟩:=I.live i n H;rw[K]at Q;obtain rfl:=R' Q;rcases h2 with⟨aQ,hg⟩|⟨F,bE,_,R⟩
     .have hz:i=0->z=.run:=by rintro rfl;rw[hg]at aC;cases z with
       |run=>rfl|park c zz=>cases aC
      have bA:g=G fa ca:=by
       rw[hg];unfold cH;split;·cases hz rfl
       .rfl
      clear hg;subst bA;by_cases A:n.stop n.f n.cs n.l
      .rcases oE i with rfl|F;· obtain rfl:=hz rfl;obtain⟨s,w',bL,ops,h3,h4⟩:=K0 (sl':=sl') rfl I ((W.mk M h hr hs).drop 0) (Same.refl _ _) (lU.refl _ _ _) Y rfl H A K aQ hR;exact tD (aE.trans h3) h4
       .
        obtain⟨j,hj⟩:=I.job i F (.inl (by rw[H];simp));obtain⟨aN,aY⟩:=I.stops i j n F hj H;rw[aY]at hR;rw[aN]at A;obtain⟨v,zz,g₂,m,hv,aZ,aG,aR⟩:=hJ i j hj A hR;have hc:=I.chanM i j n hj H;have aD:(i==0)=false:=Qk
        by_cases aP:∃zz,z=.park j.ch zz
        .obtain⟨aV,rfl⟩:=aP;obtain⟨n0,aH⟩:∃n0,M 0=some n0:=by cases h0:M 0 with
          |none=>exact absurd h0 I.zero|some n0=>exact⟨n0,rfl⟩
         obtain⟨f0,c0,g0,k1,k2,k3⟩:=I.live 0 n0 aH;rcases k2 with⟨_,k2⟩|⟨k2,_⟩;case inr=>omega
         have bG:g0=parked (G f0 c0) #[rcase j.ch aV] (.recv false):=k2;subst bG;have hp:partners (a.setIfInBounds i ph) j.ch false=[(0,0)]:=by
          rw[partners_one (j:=0) (g:=parked (G f0 c0) #[rcase j.ch aV] (.recv false)) (stand_get Qa k1) fun k x hk C=>?_,zJ,Zde rfl];·rfl
          .rcases qF a i k x C with⟨rfl,rfl⟩|⟨_,C⟩;·rfl
           .rcases I.status C with Q|Q|⟨e,_⟩;·exact mM (by rw[Q];simp) _ _
            .exact mM (by rw[Q];simp) _ _
            .exact absurd e hk
         have r:=crowd_send_meets (P:=E.P) (sl:=sl') (shape:=.send) (shj:=.recv false) K (by rw[aD];exact aG) hc (show 0≠i by omega) k1 hp;rw[U8]at r;simp only[oC]at r;have aK:=I.meet aM F H aH hj aZ k1 aR (fn:=g₂.frame.fn) (fn':=(G f0 c0).frame.fn) (pos:=g₂.frame.place) (pos':=(G f0 c0).frame.place);refine tD (aE.trans r) (K1 rfl hj hv aH ⟨fun x n' C=>?_,fun _=>by rw[upd_same,aH]⟩ aK ?_ (upd_same _ _ _) ?_ (fun x C=>?_) Qd (by simp[World.setChan,World.at]))
         .by_cases aI:x=0;·subst aI;rw[upd_same]at C;cases C;exact⟨n0,aH,rfl,rfl,rfl,Blk.le_refl _⟩
          .rw[upd_ne _ _ aI,upd_ne _ _ aI]at C;exact⟨n',(iY C).2,rfl,rfl,rfl,Blk.le_refl _⟩
         .rw[dW];exact(hr i n H (by rw[aN];exact A)).drop 0
         .rw[upd_ne _ _ (show i≠0 by omega),upd_same]
         .have aI:x≠0:=Qa
          have aW:S i=none:=by cases hs:S i with
           |none=>rfl|some p=>rw[(I.excl i p hs).1]at H;cases H
          rw[upd_ne _ _ aI];by_cases e:x=i;·subst e;rw[upd_same];exact⟨fun _ _=>.inr rfl,fun y=>absurd y (by rw[aW];simp)⟩
          .rw[upd_ne _ _ e];refine⟨fun Q h2=>.inl fun hu=>?_,fun y=>⟨(Y x C).2 y,e⟩⟩;rcases(Y x C).1 hu with h3|h3;·exact h3 h2
           .exact h3 Q
        .have aU:∀zz,z≠.park j.ch zz:=fun zz e=>aP ⟨zz,e⟩;have r:=crowd_send_room (P:=E.P) (sl:=sl') (shape:=.send) K (by rw[aD];exact aG) hc Qc (I.offers i aU);rw[U8]at r;simp only[oC]at r;have aK:=I.send aM F H hj aU hv aR (fn:=g₂.frame.fn) (pos:=g₂.frame.place);have aA:Same z M (upd M i none):=⟨fun x n' C=>⟨n',(iY C).2,rfl,rfl,rfl,Blk.le_refl _⟩,fun _=>upd_ne _ _ Qa⟩;have aF:lU J M w (upd M i none) ((w.at d).setChan j.ch 1 #[v] false 1 0 false):=⟨by simp[World.setChan,World.at],fun x C hM hJ=>⟨by rw[M7 (fun e=>hJ i j hj e.symm)];rfl,fun i n b K=>hM i n b (iY K).2⟩⟩;refine tD (aE.trans r) (ihr i n H (by rw[aN];exact A) aK (fun x n' C=>hS x n' (iY C).2) (fun x C=>?_) (fun T o u O ek eu es=>K0 T o u (aA.trans O) (aF.trans ek) eu (es.trans Qd)) fun T o u O e5 e6 e7 e8 e9 Z es ew=>K1 T o u (by rw[upd_ne _ _ Qa]at O;exact O) (aA.trans e5) e6 e7 e8 e9 Z (es.trans Qd) (h9 aF.1 ew));rw[Y x C];by_cases e:x=i;·subst e;rw[upd_same,upd_same,H];simp
         .rw[upd_ne _ _ e,upd_ne _ _ e]
      .rcases h i n H with h3|⟨hc,hg⟩;·exact absurd h3 A
       have bC:∀t d f' L l' es,stepG E.P true (G n.f n.cs) (n.l.re t d)=.go (G f' L) l' es->¬dU E.P f' L l':=by
        intro t d f' L l' es R;refine(hs i n t d f' L l' es n.B H A R).not_lost (fun x n' C=>?_) i _ (upd_same _ _ _);by_cases e:x=i;·subst e;rw[upd_same]at C;cases C;exact hS x n H
        .rw[upd_ne _ _ e]at C;exact hS x n' C
       obtain⟨tt,dd,f',L,l',es,bK,bI,w',bJ,B',g1,g2,g3,g4,g5,g7⟩:=QR hG hR hc hg bC (i==0);have r:=U7 (P:=E.P) (sl:=sl') (i:=i) K g2;have aA:Same z M (upd M i (some {n with B:=B',f:=f',cs:=L,l:=l'})):=⟨fun x n' C=>by
        by_cases e:x=i;·subst e;rw[upd_same]at C;cases C;exact⟨n,H,rfl,rfl,rfl,g4.le⟩
        .rw[upd_ne _ _ e]at C;exact⟨n',C,rfl,rfl,rfl,Blk.le_refl _⟩,fun bF=>upd_ne _ _ (by rintro rfl;exact bF (hz rfl))⟩;have aF:lU J M w (upd M i (some {n with B:=B',f:=f',cs:=L,l:=l'})) w':=⟨g4.size.1,fun x C hM hJ=>⟨g4.keep x C fun b hb=>hM i n b H hb,fun y n' b hy hb=>by
        rcases upd_some hy with⟨rfl,rfl⟩|⟨_,hy⟩
        .rcases g4.al b x hb with h5|h5;·exact hM y n b H h5
         .have h6:=h5.2.1;have:(w.at d).heap.size=w.heap.size:=rfl;omega
        .exact hM y n' b hy hb⟩⟩;refine tD (aE.trans r) (ihs i n tt dd f' L l' es B' H A g1 (I.go aM H hz aQ K g3 g4 g5 g7 hR) (fun x n' C=>?_) (fun x C=>?_) (fun T o u O ek eu es=>K0 T o u (aA.trans O) (aF.trans ek) eu (es.trans Qd)) fun T o u O e5 e6 e7 e8 e9 Z es ew=>K1 T o u ?_ (aA.trans e5) e6 e7 e8 e9 Z (es.trans Qd) (h9 aF.1 ew));·obtain⟨n2,k1,_,_,k4,_⟩:=aA.node x n' C;rw[k4];exact hS x n2 k1
       .rw[Y x C];by_cases e:x=i;·subst e;rw[upd_same,H];simp
        .rw[upd_ne _ _ e]
       .rw[aA.zero (by rw[T];simp)]at O;exact O
     .
      have aD:(i==0)=false:=Qk
      have r:=U7 (P:=E.P) (sl:=sl') (i:=i) K (by rw[aD];exact R (w.at d));rw[U8]at r;have aB:((a.map (woken E.P g (G fa ca) (w.at d))).setIfInBounds i (G fa ca)).size=a.size:=Qd
      have aT:sumTo a.size (upd q i 0)+1=sumTo a.size q+0:=by have:=sumTo_upd q 0 id aO;simpa [bE] using this
      refine tD (aE.trans r) ?_;rw[Q'];exact ihN (sumTo a.size (upd q i 0)) Qa (by rw[aB]) (I.born F H K hR) hS Y (fun T o u O ek eu es=>K0 T o u O ek eu (es.trans aB)) fun T o u O e5 e6 e7 e8 e9 Z es=>K1 T o u O e5 e6 e7 e8 e9 Z (es.trans aB)
  intro z S a w sl t q I hS Y K0 K1;exact bH _ rfl I hS Y K0 K1
end
section
variable {E:Env} {W0:World} {J:aL} {z:Zs} {M:bN} {S:bW} {gs:hE} {w w':World} {t u:Trace} {q:c6} {sl:Option (Nat×Nat)}
def Tr.renode{b:Nat} (h:Tr M S b t) {n n':Node} (d:M 0=some n)(l:∀a,nD n a->nD n' a):Tr (upd M 0 (some n')) S b t:=by
 refine⟨h.clean,h.seen,fun i a c f j m g=>?_,fun i a c f=>?_⟩
 .rcases upd_some g with⟨rfl,rfl⟩|⟨_,g⟩;·exact(h.known i a c f 0 n d).imp id (l a)
  .exact h.known i a c f j m g
 .rcases h.hand i a c f with x|⟨k,m,r,p⟩|x;·exact .inl x
  .by_cases e:k=0;·subst e;exact .inl p
   .exact .inr (.inl ⟨k,m,by rw[upd_ne _ _ e];exact r,p⟩)
  .exact .inr (.inr x)
def Co.renode(h:Co E W0 J .run M S gs w t q) {n n':Node} (d:M 0=some n) {D:y1} {o:hA} (hg:gs[0]?=some (G D o))(Y:q 0=0)(hR:Rel E n'.sh n'.bs n'.B n'.f n'.cs n'.l D o w)(P:∀b' x,n'.B b' x->∃b,n.B b x/\(n.sh b->n'.sh b')):Co E W0 J .run (upd M 0 (some n')) S gs w t q:=by
 have V:∀a,nD n a->nD n' a:=fun a V b' x C H=>by obtain⟨b,v,y⟩:=P b' x C;obtain⟨I,K⟩:=V b x v H;exact⟨y I,K⟩
 have L:∀j,upd M 0 (some n') j≠none->M j≠none:=by
  intro j A;by_cases e:j=0;·subst e;rw[d];simp
  .rwa [upd_ne _ _ e]at A
 have R:∀j,upd M 0 (some n') j=none->M j=none:=by
  intro j A;by_cases e:j=0;·subst e;rw[upd_same]at A;cases A
  .rwa [upd_ne _ _ e]at A
 refine⟨fun i m r=>?_,fun i g r s H=>h.old i g r (R i s) H,fun i r=>h.deaf i (r.imp (L i) id),by rw[upd_same];simp,fun i j m U b c x W r A C T=>?_,h.tr.renode d V,fun k j m F s=>?_,h.chanS,fun k F s=>h.job k F (s.imp (L k) id),h.one,h.fresh,fun k p hp=>?_,(by intro c zz aD;cases aD),fun k j m F A s=>?_,fun i m b x r C H=>?_,h.keep,h.same⟩
 .rcases upd_some r with⟨rfl,rfl⟩|⟨_,r⟩;·exact⟨D,o,G D o,hg,.inl ⟨Y,rfl⟩,hR⟩
  .exact h.live i m r
 .rcases upd_some r with⟨e1,rfl⟩|⟨Z,N⟩<;>rcases upd_some A with⟨e2,rfl⟩|⟨X,O⟩;·omega
  .obtain⟨Q,v,y⟩:=P b x C;obtain⟨I,K⟩:=h.apart 0 j n U Q c x (fun e=>X e.symm) d O v T;exact⟨y I,K⟩
  .obtain⟨c1,v,y⟩:=P c x T;obtain⟨I,K⟩:=h.apart i 0 m n b c1 x Z N d C v;exact⟨I,y K⟩
  .exact h.apart i j m U b c x W N O C T
 .rcases upd_some s with⟨rfl,rfl⟩|⟨_,s⟩;·exact h.chanM 0 j n F d
  .exact h.chanM k j m F s
 .obtain⟨v,y⟩:=h.excl k p hp;exact⟨by rw[upd_ne _ _ Qa];exact v,y⟩
 .rcases upd_some s with⟨rfl,rfl⟩|⟨_,s⟩;·omega
  .exact h.stops k j m F A s
 .rcases upd_some r with⟨rfl,rfl⟩|⟨_,r⟩;·obtain⟨Q,v,y⟩:=P b x C;exact y (h.base 0 n Q x d v H)
  .exact h.base i m b x r C H
def Co.park(h:Co E W0 J .run M S gs w t q) {n T:Node} (b:M 0=some T) {fa:y1} {ca:hA} (K:gs[0]?=some (G fa ca))(y:q 0=0) {k:Nat} {j:Job} (s:0<k)(Q:J k=some j)(O:M k=some n)(a:Value):Co E W0 J (.park j.ch a) M S (gs.setIfInBounds 0 (parked (G fa ca) #[rcase j.ch a] (.recv false))) w t q:=by
 have v:0<gs.size:=(bO.1 K).1;refine⟨fun i m p=>?_,fun i g p R L=>?_,fun i p=>h.deaf i (p.imp id fun x=>by simpa using x),h.zero,h.apart,h.tr,h.chanM,h.chanS,h.job,h.one,h.fresh,h.excl,fun c V A=>?_,h.stops,h.base,h.keep,h.same⟩
 .obtain⟨H,C,g,r,f,I⟩:=h.live i m p;by_cases e:i=0
  .subst e;rw[K]at r;rcases f with⟨_,f⟩|⟨f,_⟩;case inr=>omega
   have F:=(R' r).trans f;have N:fa=H/\ca=C:=by simp only[cH,G,bS,bQ]at F;exact F
   obtain⟨rfl,rfl⟩:=N;exact⟨fa,ca,_,by rw[bX v];rfl,.inl ⟨y,rfl⟩,I⟩
  .refine⟨H,C,g,by rw[cA (fun x=>e x.symm)];exact r,?_,I⟩;unfold jG at f |-;rw[qJ (iM e)]at f |-;exact f
 .rw[cA Qa]at L;exact h.old i g p R L
 .cases A;exact⟨k,j,n,s,Q,rfl,O⟩
def Co.take(aL:E.sh=true)(h:Co E W0 J .run M S gs w t q) {I:Node} (h0:M 0=some I) {fa:y1} {ca:hA} (hg:gs[0]?=some (G fa ca))(aU:q 0=0) {k p:Nat} {j:Job} (hj:J k=some j)(hS:S k=some p) {v:Value} (hv:bG 8 v=true)(hc:w.heap[j.ch]?=some (.chan 1 #[v] false 1 0 false)) {fn:FuncId} {pos:String}:Co E W0 J .run (upd M 0 (some {I with f:=I.f.finish v})) (upd S k none) (gs.setIfInBounds 0 (G (fa.finish v) ca)) (w.setChan j.ch 1 #[] false 1 1 false)
   (t++#[{g:=0,fn,pos,act:=.recv j.ch 0 1},{g:=0,fn,pos,act:=.recvDone j.ch 0}]) q:=by
 have aE:j.ch<w.heap.size:=(bO.1 hc).1;have aG:0<gs.size:=(bO.1 hg).1;have hk:M k=none/\0<k:=h.excl k p hS;have aQ:Deaf t 0=0:=h.deaf 0 (.inl (by rw[h0];simp));have aA:∀{i:Nat} {m:Node} {b x:Nat},M i=some m->m.B b x->x≠j.ch:=by intro i m b x r O e;exact h.chan_free r hc b (e▸O)
 have aZ:=h.fresh k j hj;obtain⟨v0,_,_,⟨aX,aB,aH⟩,aI⟩:=h.chanS k j p hj hS;have aK:=XY aB;have H:(w.setChan j.ch 1 #[] false 1 1 false).heap.size=w.heap.size:=by simp[World.setChan]
 generalize V:({g:=0,fn,pos,act:=.recv j.ch 0 1}:MemOp)=L;generalize K:({g:=0,fn,pos,act:=.recvDone j.ch 0}:MemOp)=N;have hT:Tr M S w.heap.size (t++#[L,N]):=Zm [L,N] h.tr (by simp[<-V,<-K,MemAct.touch?,MemAct.low,aE]);have hn:∀Z∈(#[L,N]:Trace),Z.act.touch?=none:=by simp[<-V,<-K,MemAct.touch?]
 have aS:∀Z∈(#[L,N]:Trace),Z.act≠.mark .disable/\Z.act≠.mark .enable:=by simp[<-V,<-K]
 have aT:∀Z∈(#[L]:Trace),Z.act≠.mark .disable/\Z.act≠.mark .enable:=by simp[<-V]
 have g1:(t++#[L,N])[t.size+1]?=some N:=V0 (t:=t) (u:=#[L,N]) (i:=1) rfl;have e1:t++#[L,N]=(t++#[L])++#[N]:=by apply Array.ext';simp
 have d1:(t++#[L,N]).deaf 0 (t.size+1)=0:=by
  rw[e1,Ao Qd];have:(t++#[L]).size=t.size+1:=Qd
  rw[<-this];exact(V2 t 0 _ aT).trans aQ
 have hD:∀g,Deaf (t++#[L,N]) g=Deaf t g:=fun g=>V2 t g _ aS;have aC:∀i,Before t i p->Knows (t++#[L,N]) 0 i:=fun i r=>zP (c:=j.ch) (x:=aX) (by rw[Ap aK];exact aB) aH ((b6 aK).2 aI) g1 (by rw[<-K]) (by rw[<-K]) (nE g1 (by rw[<-K]) d1) (r.app _);obtain⟨aO,aM,x',aF,aD,aV⟩:=h.live 0 I h0;rw[hg]at aF;rcases aD with⟨_,aD⟩|⟨aY,_⟩;case inr=>omega
 have he:=(R' aF).trans aD;have aN:fa=aO/\ca=aM:=by simp only[cH,G,bS,bQ]at he;exact he
 obtain⟨rfl,rfl⟩:=aN;have R:∀i m,upd M 0 (some {I with f:=I.f.finish v}) i=some m->∃m',M i=some m'/\m'.B=m.B/\m'.sh=m.sh:=by
  intro i m r;rcases upd_some r with⟨rfl,rfl⟩|⟨_,r⟩;·exact⟨I,h0,rfl,rfl⟩
  .exact⟨m,r,rfl,rfl⟩
 refine⟨fun i m r=>?_,fun i x r C D=>?_,fun i r=>?_,by rw[upd_same];simp,fun a b m m' c d x aP ha O hc hd=>?_,⟨hT.clean,by rw[H];exact hT.seen,fun i a ha C x m D=>?_,fun i a ha C=>?_⟩,fun i j' m r C=>?_,fun i j' p' r hp=>?_,fun i r C=>?_,h.one,h.fresh,fun i p' hp=>?_,(by intro c zz aW;cases aW),fun i j' m r aR C=>?_,fun i m b x C O D=>?_,?_,h.same⟩
 .rcases upd_some r with⟨rfl,rfl⟩|⟨A,r⟩;·refine⟨fa.finish v,ca,_,by rw[bX aG];rfl,.inl ⟨aU,rfl⟩,?_⟩;have s:Rel E I.sh I.bs I.B I.f I.cs I.l fa ca (w.setChan j.ch 1 #[] false 1 1 false):=S2 aL aV (by rw[H];exact sW _) fun b x O=>M7 (aA h0 O);exact⟨s.st.top (s.st.head.finish (VR.closed 8 v hv)) (Blk.le_refl _) (gF _ _),s.wr,s.low⟩
  .obtain⟨fi,ci,x,F,Q,s⟩:=h.live i m r;exact⟨fi,ci,x,by rw[cA (fun e=>A e.symm)];exact F,Q,S2 aL s (by rw[H];exact sW _) fun b x O=>M7 (aA r O)⟩
 .have A:i≠0:=Qa
  rw[upd_ne _ _ A]at C;rw[cA (fun e=>A e.symm)]at D;rw[hD];exact h.old i x r C D
 .rw[hD];refine h.deaf i (r.imp (fun x=>?_) fun x=>by simpa using x);by_cases A:i=0;·subst A;rw[h0];simp
  .rwa [upd_ne _ _ A]at x
 .obtain⟨m1,F,s,Q⟩:=R a m ha;obtain⟨m2,h4,h5,h6⟩:=R b m' O;have:=h.apart a b m1 m2 c d x aP F h4 (s▸hc) (h5▸hd);rw[Q,h6]at this;exact this
 .obtain⟨m1,F,s,Q⟩:=R x m D;refine(hT.known i a ha C x m1 F).imp id fun hf b y O hy=>?_;have:=hf b y (by rw[s];exact O) hy;rw[Q]at this;exact this
 .rcases h.tr.hand i a (oI hn ha) C with x|⟨i',m,F,s⟩|⟨i',p',F,s⟩;·exact .inl (x.app _)
  .by_cases A:i'=0;·subst A;exact .inl (s.app _)
   .exact .inr (.inl ⟨i',m,by rw[upd_ne _ _ A];exact F,s.app _⟩)
  .by_cases e:i'=k;·subst e;rw[hS]at F;cases F;exact .inl (aC i s)
   .exact .inr (.inr ⟨i',p',by rw[upd_ne _ _ e];exact F,s.app _⟩)
 .have T:i≠k:=by rintro rfl;rw[upd_ne _ _ Qa,hk.1]at C;cases C
  rw[M7 fun e=>T (h.one i k j' j r hj e)];rcases upd_some C with⟨rfl,rfl⟩|⟨_,C⟩;·exact h.chanM 0 j' I r h0
  .exact h.chanM i j' m r C
 .obtain⟨T,hp⟩:=iY hp;obtain⟨v',F,s,⟨Z,Q,h4⟩,h5⟩:=h.chanS i j' p' r hp;have aJ:=XY Q;exact⟨v',F,by rw[M7 fun e=>T (h.one i k j' j r hj e)];exact s,⟨Z,by rw[Ap aJ];exact Q,h4⟩,(b6 aJ).2 h5⟩
 .refine h.job i r (C.imp (fun x=>by rwa [upd_ne _ _ (show i≠0 by omega)]at x) fun x=>?_);by_cases e:i=k;·subst e;rw[upd_same]at x;exact absurd rfl x
  .rwa [upd_ne _ _ e]at x
 .obtain⟨T,hp⟩:=iY hp;obtain⟨F,s⟩:=h.excl i p' hp;exact⟨by rw[upd_ne _ _ (show i≠0 by omega)];exact F,s⟩
 .rcases upd_some C with⟨rfl,rfl⟩|⟨_,C⟩;·omega
  .exact h.stops i j' m r aR C
 .obtain⟨m1,F,s,Q⟩:=R i m C;rw[<-Q];exact h.base i m1 b x F (by rw[s];exact O) D
 .rw[H];exact⟨h.keep.1,fun x D=>by rw[M7 Qa];exact h.keep.2 x D⟩
end
section
variable {E:Env} {W0:World} {J:aL} {z:Zs} {M:bN} {S:bW} {gs:hE} {w w':World} {t u:Trace} {q:c6} {sl:Option (Nat×Nat)}
def Rel.fin{a:hN} {bs:hA} {B:Blk} {f fa:y1} {cs ca:hA} {l:World} (h:Rel E a bs B f cs l fa ca w) {v c:Value} (b:VR E B v c):Rel E a bs B (f.finish v) cs l (fa.finish c) ca w:=⟨h.st.top (h.st.head.finish b) (Blk.le_refl _) (gF _ _),h.wr,h.low⟩
def Co.made(aF:E.sh=true)(h:Co E W0 J .run M S gs w t q) {C:Node} (k:M 0=some C) {fa:y1} {ca:hA} (hg:gs[0]?=some (G fa ca))(aN:q 0=0) {v:Value} (hv:VR E C.B v v) {o:Obj} (hw:w'.heap=w.heap.push o)(X:w'.os=w.os/\w'.output=w.output/\w'.tape=w.tape):Co E W0 J .run (upd M 0 (some {C with f:=C.f.finish v})) S ((gs.map (woken E.P (G fa ca) (G (fa.finish v) ca) w')).setIfInBounds 0 (G (fa.finish v) ca)) w' t q:=by
 have aC:0<gs.size:=(bO.1 hg).1;have n:∀x,x<w.heap.size->w'.heap[x]?=w.heap[x]?:=fun x A=>by rw[hw,dP A,e3 A]
 have K:w.heap.size<=w'.heap.size:=by rw[hw];simp
 have V:∀{x:Nat} {o:Obj},w.heap[x]?=some o->x<w.heap.size:=fun h=>(bO.1 h).1;have Q:∀{x:Nat} {o:Obj},w.heap[x]?=some o->w'.heap[x]?=some o:=fun A=>by rw[n _ (V A)];exact A
 obtain⟨aK,aH,x',aB,R,aE⟩:=h.live 0 C k;rw[hg]at aB;rcases R with⟨_,R⟩|⟨aP,_⟩;case inr=>omega
 have he:=(R' aB).trans R;have aJ:fa=aK/\ca=aH:=by simp only[cH,G,bS,bQ]at he;exact he
 obtain⟨rfl,rfl⟩:=aJ;have N:∀i m,upd M 0 (some {C with f:=C.f.finish v}) i=some m->∃l,M i=some l/\l.B=m.B/\l.sh=m.sh:=by
  intro i m g;rcases upd_some g with⟨rfl,rfl⟩|⟨_,g⟩;·exact⟨C,k,rfl,rfl⟩
  .exact⟨m,g,rfl,rfl⟩
 have aA:∀j,upd M 0 (some {C with f:=C.f.finish v}) j≠none->M j≠none:=by
  intro j hj;by_cases e:j=0;·subst e;rw[k];simp
  .rwa [upd_ne _ _ e]at hj
 have aO:∀c zz,Zs.run=.park c zz->∃aI aG s r tm,w'.heap[c]?=some (.chan aI aG false s r tm):=by intro c zz T;cases T
 refine⟨fun i m g=>?_,fun i x g p A=>?_,fun i g=>h.deaf i (g.imp (aA i) fun x=>by simpa using x),by rw[upd_same];simp,fun a b m l c d x aL U O hc hd=>?_,(h.tr.renode (n':={C with f:=C.f.finish v}) k fun a U=>U).mono K,fun i Z m g p=>?_,fun i Z Y g W=>?_,fun i g p=>h.job i g (p.imp (aA i) id),h.one,h.fresh,fun i Y W=>?_,(by intro c zz T;cases T),fun i Z m g aM p=>?_,fun i m b x p O A=>?_,?_,⟨X.1.trans h.same.1,X.2.1.trans h.same.2.1,X.2.2.trans h.same.2.2⟩⟩
 .rcases upd_some g with⟨rfl,rfl⟩|⟨I,g⟩;·refine⟨fa.finish v,ca,G (fa.finish v) ca,by rw[bX (by simpa using aC)],.inl ⟨aN,rfl⟩,?_⟩;exact(S2 aF aE K fun b x O=>n x (R2 aE O).1).fin hv
  .obtain⟨fi,ci,x,H,L,F⟩:=h.live i m g;exact⟨fi,ci,x,by rw[SJ I,H,bV,L.woken aO],L,S2 aF F K fun b x O=>n x (R2 F O).1⟩
 .have I:i≠0:=Qa
  rw[upd_ne _ _ I]at p;rw[SJ I]at A;obtain⟨y,hy,rfl⟩:=e'.1 A;have aD:=h.old i y g p hy;rw[iK aD];exact aD
 .obtain⟨m1,H,F,L⟩:=N a m U;obtain⟨m2,h4,D,h6⟩:=N b l O;have:=h.apart a b m1 m2 c d x aL H h4 (F▸hc) (D▸hd);rw[L,h6]at this;exact this
 .rcases upd_some p with⟨rfl,rfl⟩|⟨_,p⟩;·exact Q (h.chanM 0 Z C g k)
  .exact Q (h.chanM i Z m g p)
 .obtain⟨v',H,F,L,D⟩:=h.chanS i Z Y g W;exact⟨v',H,Q F,L,D⟩
 .obtain⟨H,F⟩:=h.excl i Y W;exact⟨by rw[upd_ne _ _ (show i≠0 by omega)];exact H,F⟩
 .rcases upd_some p with⟨rfl,rfl⟩|⟨_,p⟩;·omega
  .exact h.stops i Z m g aM p
 .obtain⟨m1,H,F,L⟩:=N i m p;rw[<-L];exact h.base i m1 b x H (by rw[F];exact O) A
 .exact⟨h9 h.keep.1 K,fun x A=>by rw[n x (h8 A h.keep.1)];exact h.keep.2 x A⟩
def Co.spawn(h:Co E W0 J .run M S gs w t q) {N nK:Node} (o:M 0=some N) {fa fc:y1} {ca cc:hA} (hg:gs[0]?=some (G fa ca))(bH:q 0=0) {jb:Job} (aW:J gs.size=none)(bF:nK.bs=jb.bs)(bG:nK.stop=jb.stop)(aY:w.heap[jb.ch]?=some (.chan 1 #[] false 0 0 false))(aF:∀k j,J k=some j->j.ch≠jb.ch)(aB:W0.heap.size<=jb.ch) {child:Goroutine} (aZ:child.status=.running)(bA:∀w,stepG E.P false child w=.go (G fc cc) w #[])(hR:Rel E nK.sh nK.bs nK.B nK.f nK.cs nK.l fc cc w)(hB:∀b x,nK.B b x->nK.sh b/\∃R,N.B R x/\N.sh R) {fn fn':FuncId} {pos:String}:Co E W0 (upd J gs.size (some jb)) .run (upd (upd M 0 (some {N with f:=N.f.finish undef})) gs.size (some nK)) S ((gs.setIfInBounds 0 (G (fa.finish undef) ca)).push child) w (t++#[{g:=0,fn,pos,act:=.go gs.size},{g:=gs.size,fn:=fn',pos,act:=.start}]) (upd q gs.size 1):=by
 have aR:0<gs.size:=(bO.1 hg).1;have aL:gs.size≠0:=Qa
 obtain⟨aV,aT,x',aP,aK,aJ⟩:=h.live 0 N o;rw[hg]at aP;rcases aK with⟨_,aK⟩|⟨bK,_⟩;case inr=>omega
 have he:=(R' aP).trans aK;have aU:fa=aV/\ca=aT:=by simp only[cH,G,bS,bQ]at he;exact he
 obtain⟨rfl,rfl⟩:=aU;have aM:∀i m,M i=some m->i<gs.size:=by intro i m A;obtain⟨_,_,_,s,_⟩:=h.live i m A;exact(bO.1 s).1
 have aN:S gs.size=none:=by cases hs:S gs.size with|none=>rfl|some p=>obtain⟨j,hj⟩:=h.job gs.size Qa (.inr (by rw[hs];simp));rw[aW]at hj;cases hj
 have aA:∀k j,upd J gs.size (some jb) k=some j->(k=gs.size/\j=jb)∨(k≠gs.size/\J k=some j):=fun k j=>upd_some;have bB:Deaf t 0=0:=h.deaf 0 (.inl (by rw[o];simp));have aO:Deaf t gs.size=0:=h.deaf gs.size (.inr (sW _));generalize K:({g:=0,fn,pos,act:=.go gs.size}:MemOp)=C;generalize L:({g:=gs.size,fn:=fn',pos,act:=.start}:MemOp)=H;have hT:Tr M S w.heap.size (t++#[C,H]):=Zm [C,H] h.tr (by simp[<-K,<-L,MemAct.touch?,MemAct.low]);have hn:∀op∈(#[C,H]:Trace),op.act.touch?=none:=by simp[<-K,<-L,MemAct.touch?]
 have bD:∀op∈(#[C,H]:Trace),op.act≠.mark .disable/\op.act≠.mark .enable:=by simp[<-K,<-L]
 have bE:∀op∈(#[C]:Trace),op.act≠.mark .disable/\op.act≠.mark .enable:=by simp[<-K]
 have g0:(t++#[C,H])[t.size]?=some C:=by have:=V0 (t:=t) (u:=#[C,H]) (i:=0) rfl;rwa [w7]at this
 have g1:(t++#[C,H])[t.size+1]?=some H:=V0 (t:=t) (u:=#[C,H]) (i:=1) rfl;have e1:t++#[C,H]=(t++#[C])++#[H]:=by apply Array.ext';simp
 have d1:(t++#[C,H]).deaf gs.size (t.size+1)=0:=by
  rw[e1,Ao Qd];have:(t++#[C]).size=t.size+1:=Qd
  rw[<-this];exact(V2 t gs.size _ bE).trans aO
 have d0:(t++#[C,H]).deaf 0 t.size=0:=by rw[Ao (sW _)];exact bB
 have hD:∀g,Deaf (t++#[C,H]) g=Deaf t g:=fun g=>V2 t g _ bD;have aI:∀i,Knows t 0 i->Knows (t++#[C,H]) gs.size i:=fun i A=>⟨t.size+1,H,g1,by rw[<-L],.inr ((A.hb_new (y:=C) (sW _) g0 (by rw[<-K])).trans (.single (.inr ⟨.spawn (child:=gs.size) (by simp[Trace.act?,<-K]) (by simp[Trace.act?,<-L]) (by simp[Trace.g?,<-L]),nE g0 (by rw[<-K]) d0,nE g1 (by rw[<-L]) d1⟩)))⟩;have I:∀i m,upd (upd M 0 (some {N with f:=N.f.finish undef})) gs.size (some nK) i=some m->(i=gs.size/\m=nK)∨(i≠gs.size/\∃D,M i=some D/\D.B=m.B/\D.sh=m.sh/\(i≠0->D=m)/\(i=0->m={N with f:=N.f.finish undef}/\D=N)):=by
  intro i m A;rcases upd_some A with⟨s,v⟩|⟨s,v⟩;·exact .inl ⟨s,v⟩
  .rcases upd_some v with⟨rfl,rfl⟩|⟨O,Q⟩;·exact .inr ⟨s,N,o,rfl,rfl,fun e=>absurd rfl e,fun _=>⟨rfl,rfl⟩⟩
   .exact .inr ⟨s,m,Q,rfl,rfl,fun _=>rfl,fun e=>absurd e O⟩
 have aD:∀i,i≠0->i≠gs.size->((gs.setIfInBounds 0 (G (fa.finish undef) ca)).push child)[i]?=gs[i]?:=by intro i s v;rw[eS];rw[q' (by simpa using v),cA (fun e=>s e.symm)]
 have aG:((gs.setIfInBounds 0 (G (fa.finish undef) ca)).push child)[0]?=some (G (fa.finish undef) ca):=by rw[eS,q' (by simpa using fun e=>aL e.symm),bX aR]
 have aH:((gs.setIfInBounds 0 (G (fa.finish undef) ca)).push child)[gs.size]?=some child:=by rw[eS,Zde Qd]
 refine⟨fun i m A=>?_,fun i x A F hx=>?_,fun i A=>?_,?_,fun a b m D c d x aX ha U hc hd=>?_,⟨hT.clean,hT.seen,fun i a ha F x m hx=>?_,fun i a ha F=>?_⟩,fun i V m A F=>?_,fun i V p' A Y=>?_,fun i A F=>?_,fun k k' j V W bC he=>?_,fun k j W=>?_,fun i p' Y=>?_,(by intro c zz bI;cases bI),fun i V m A aC F=>?_,fun i m b x F U hx=>?_,h.keep,h.same⟩
 .rcases I i m A with⟨rfl,rfl⟩|⟨r,D,s,v,O,Q,Z⟩;·exact⟨fc,cc,child,aH,.inr ⟨Qa,upd_same _ _ _,aZ,bA⟩,hR⟩
  .by_cases e:i=0;·subst e;obtain⟨rfl,rfl⟩:=Z rfl;exact⟨fa.finish undef,ca,G (fa.finish undef) ca,aG,.inl ⟨by rw[upd_ne _ _ r];exact bH,rfl⟩,aJ.fin undefR⟩
   .obtain rfl:=Q e;obtain⟨fi,ci,y,g1,g2,g3⟩:=h.live i D s;exact⟨fi,ci,y,by rw[aD i e r];exact g1,by rw[upd_ne _ _ r];exact g2,g3⟩
 .have T:i≠0:=Qa
  have r:i≠gs.size:=by rintro rfl;rw[upd_same]at F;cases F
  rw[upd_ne _ _ r,upd_ne _ _ T]at F;rw[aD i T r]at hx;rw[hD,upd_ne _ _ r];exact h.old i x A F hx
 .rw[hD];by_cases r:i=gs.size;·subst r;exact aO
  .refine h.deaf i (A.imp (fun x=>?_) fun x=>by simp at x;omega);rw[upd_ne _ _ r]at x;by_cases e:i=0;·subst e;rw[o];simp
   .rwa [upd_ne _ _ e]at x
 .rw[upd_ne _ _ (fun e=>aL e.symm),upd_same];simp
 .rcases I a m ha with⟨ea,rfl⟩|⟨bL,m1,s,v,O,_⟩<;>rcases I b D U with⟨eb,rfl⟩|⟨bM,m2,Q,Z,h6,_⟩;·omega
  .obtain⟨k1,R,k2,k3⟩:=hB c x hc;refine⟨k1,?_⟩;rw[<-h6];by_cases e:b=0;·subst e;rw[o]at Q;cases Q;have:R=d:=aJ.wr.inj R d x k2 (by rw[Z];exact hd);rw[<-this];exact k3
   .exact(h.apart 0 b N m2 R d x (fun y=>e y.symm) o Q k2 (by rw[Z];exact hd)).2
  .obtain⟨k1,R,k2,k3⟩:=hB d x hd;refine⟨?_,k1⟩;rw[<-O];by_cases e:a=0;·subst e;rw[o]at s;cases s;have:R=c:=aJ.wr.inj R c x k2 (by rw[v];exact hc);rw[<-this];exact k3
   .exact(h.apart a 0 m1 N c R x e s o (by rw[v];exact hc) k2).1
  .have:=h.apart a b m1 m2 c d x aX s Q (by rw[v];exact hc) (by rw[Z];exact hd);rw[O,h6]at this;exact this
 .rcases I x m hx with⟨rfl,rfl⟩|⟨_,m1,s,v,O,_⟩
  .rcases h.tr.known i a (oI hn ha) F 0 N o with W|hf;·exact .inl (aI i W)
   .refine .inr fun b y U hy=>?_;obtain⟨k1,R,k2,k3⟩:=hB b y U;exact⟨k1,(hf R y k2 hy).2⟩
  .refine(hT.known i a ha F x m1 s).imp id fun hf b y U hy=>?_;have:=hf b y (by rw[v];exact U) hy;rw[O]at this;exact this
 .rcases h.tr.hand i a (oI hn ha) F with x|⟨i',m,s,v⟩|⟨i',p',s,v⟩;·exact .inl (x.app _)
  .by_cases T:i'=0;·subst T;exact .inl (v.app _)
   .refine .inr (.inl ⟨i',m,?_,v.app _⟩);have:=aM i' m s;rw[upd_ne _ _ (show i'≠gs.size by omega),upd_ne _ _ T];exact s
  .exact .inr (.inr ⟨i',p',s,v.app _⟩)
 .rcases aA i V A with⟨rfl,rfl⟩|⟨r,A⟩;·exact aY
  .rcases I i m F with⟨e,_⟩|⟨_,m1,s,_⟩;·exact absurd e r
   .exact h.chanM i V m1 A s
 .have r:i≠gs.size:=by rintro rfl;rw[aN]at Y;cases Y
  rw[upd_ne _ _ r]at A;obtain⟨v',s,v,⟨op,O,Q⟩,Z⟩:=h.chanS i V p' A Y;have aS:=XY O;exact⟨v',s,v,⟨op,by rw[Ap aS];exact O,Q⟩,(b6 aS).2 Z⟩
 .by_cases r:i=gs.size;·subst r;exact⟨jb,upd_same _ _ _⟩
  .rw[upd_ne _ _ r];refine h.job i A (F.imp (fun x=>?_) id);rwa [upd_ne _ _ r,upd_ne _ _ Qa]at x
 .rcases aA k j W with⟨e1,e2⟩|⟨bN,aQ⟩<;>rcases aA k' V bC with⟨e3,e4⟩|⟨bJ,aE⟩;·rw[e1,e3]
  .exact absurd (by rw[<-e2];exact he.symm) (aF k' V aE)
  .exact absurd (by rw[<-e4];exact he) (aF k j aQ)
  .exact h.one k k' j V aQ aE he
 .rcases aA k j W with⟨rfl,rfl⟩|⟨_,W⟩;·exact aB
  .exact h.fresh k j W
 .have r:i≠gs.size:=by rintro rfl;rw[aN]at Y;cases Y
  obtain⟨s,v⟩:=h.excl i p' Y;exact⟨by rw[upd_ne _ _ r,upd_ne _ _ (show i≠0 by omega)];exact s,v⟩
 .rcases I i m F with⟨rfl,rfl⟩|⟨r,m1,s,v,O,Q,Z⟩;·rw[upd_same]at aC;cases aC;exact⟨bG,bF⟩
  .rw[upd_ne _ _ r]at aC;obtain rfl:=Q Qa;exact h.stops i V m1 A aC s
 .rcases I i m F with⟨rfl,rfl⟩|⟨r,m1,s,v,O,Q,Z⟩;·exact(hB b x U).1
  .rw[<-O];exact h.base i m1 b x s (by rw[v];exact U) hx
end
structure Ready (E:Env)(W0:World)(J:aL)(U:hN)(Ch:hB)(n:Node)(M:bN)(S:bW)(gs:hE)(w:World)(t:Trace)(q:c6)(fa:y1)(ca:hA):Prop where
 co:Co E W0 J .run M S gs w t q
 tree:W E (upd M 0 none)
 halts:∀i m,0<i->M i=some m->Halts m.stop
 un:Un U M S
 node:∃s,M 0=some {n with stop:=s}
 gs0:gs[0]?=some (G fa ca)
 q0:q 0=0
 rel:Rel E n.sh n.bs n.B n.f n.cs n.l fa ca w
 pend:∀c,Ch=some c->w.heap[c]?=some (.chan 1 #[] false 0 0 false)/\W0.heap.size<=c/\∀k j,J k=some j->j.ch≠c
 jlt:∀k j,J k=some j->k<gs.size/\j.ch<w.heap.size
def gG(E:Env)(d:World)(J:aL)(U:hN)(c:hB)(a:hS)(n:Node):Prop:=∀{M:bN} {S:bW} {b:hE} {w:World} {sl:Option (Nat×Nat)} {t:Trace} {q:c6} {fa:y1} {ca:hA},Ready E d J U c n M S b w t q fa ca->oJ E.P a b w sl t 0
def KGo(E:Env)(d:World)(J:aL)(U:hN)(c:hB)(a:hS)(n:Node):Prop:=∀{M:bN} {S:bW} {b:hE} {w:World} {sl:Option (Nat×Nat)} {t:Trace} {q:c6} {fa:y1} {ca:hA},Ready E d J U c n M S b w t q fa ca->Fin E.P a b w sl t
section
variable {E:Env} {W0:World} {J:aL} {U:hN} {Ch:hB} {Post:hS} {n:Node}
def Zt{M:bN} {S:bW} {a:hE} {w:World} {t:Trace} {q:c6} {fa:y1} {ca:hA} (h:Ready E W0 J U Ch n M S a w t q fa ca)(s:aH):Co E W0 J .run (upd M 0 (some {n with stop:=s})) S a w t q:=by obtain⟨j,f⟩:=h.node;exact h.co.renode f h.gs0 h.q0 h.rel fun c x g=>⟨c,g,id⟩
def QS(G:E.Fine)(O:E.sh=true)(P:∀k j,J k=some j->eP E j) {a:aH} (Y:Halts a)(X:LG E a n.f n.cs n.l)(k:∀n',n'.sh=n.sh->n'.bs=n.bs->n.B.le n'.B->a n'.f n'.cs n'.l->gG E W0 J U Ch Post n'):KGo E W0 J U Ch Post n:=by
 intro M S gs w sl t q fa ca h;have T:=Zt h a;have hT:W E (upd M 0 (some {n with stop:=a})):=by have:=h.tree.add X (upd_same _ _ _) n.sh n.bs n.B;rwa [dW]at this
 obtain⟨s0,h0⟩:=h.node;refine zQ (U:=U) G O P hT T (fun i m p=>?_) (fun x hx=>?_) ?_ (by intro _ _ _ _ _ _ _ _ _ _ _ _ e;cases e)
 .rcases upd_some p with⟨_,rfl⟩|⟨A,p⟩;·exact Y
  .exact h.halts i m (iM A) p
 .rw[upd_ne _ _ Qa];exact h.un x hx
 .intro M' S' aA w' aB t' q' n' Z V _ F K v s I Q r y L N H;obtain⟨n1,A,o,u,z,D⟩:=v.node 0 n' r;rw[upd_same]at A;cases A;refine k n' o u D (by rw[z]at y;exact y) ⟨F,K,fun i m p hm=>?_,I,⟨n'.stop,r⟩,L,N,H,fun c hc=>?_,fun k' j hj=>?_⟩;·obtain⟨m1,g,_,_,d,_⟩:=v.node i m hm;rw[upd_ne _ _ Qa]at g;rw[d];exact h.halts i m1 p g
  .obtain⟨g,C,R⟩:=h.pend c hc;refine⟨?_,C,R⟩;rw[(s.2 c (bO.1 g).1 (fun i m b p hb=>absurd hb (T.chan_free p g b)) R).1];exact g
  .obtain⟨g,C⟩:=h.jlt k' j hj;exact⟨by rw[Q];exact g,h8 C s.1⟩
def Co.offers_send{z:Zs} {M:bN} {S:bW} {a:hE} {w:World} {t:Trace} {q:c6} (h:Co E W0 J z M S a w t q)(c:Nat):partners (a.setIfInBounds 0 ph) c true=[]:=by
 refine partners_nil fun j g m=>?_;rcases qF a 0 j g m with⟨rfl,rfl⟩|⟨p,m⟩;·rfl
 .rcases h.status m with f|f|⟨e,_⟩;·exact mM (by rw[f];simp) _ _
  .exact mM (by rw[f];simp) _ _
  .exact absurd e p
def QT(hG:E.Fine)(aC:E.sh=true)(hJ:∀k j,J k=some j->eP E j) {k:Nat} {j:Job} (hk:0<k)(T:J k=some j)(hU:U k)(hV:∀v,j.V v->bG 8 v=true)(hst:∀{fa:y1} {ca:hA} {w:World},Rel E n.sh n.bs n.B n.f n.cs n.l fa ca w->∃u,stepG E.P true (G fa ca) w=.comm (G fa ca) #[rcase j.ch u] true (.recv false) w #[])(kk:∀v,j.V v->KGo E W0 J (fun x=>U x/\x≠k) none Post {n with f:=n.f.finish v}):gG E W0 J U none Post n:=by intro M S gs w sl t q fa ca h;obtain⟨u,N⟩:=hst h.rel;obtain⟨s0,h0⟩:=h.node;have I:0<gs.size:=(bO.1 h.gs0).1;have s:stepG E.P (0==0) (G fa ca) w=.comm (G fa ca) #[rcase j.ch u] true (.recv false) w #[]:=N;cases z:S k with
 |some p=>
  obtain⟨v,D,H,_,_⟩:=h.co.chanS k j p T z;have r:=crowd_recv_buf (P:=E.P) (sl:=sl) (shape:=.recv false) h.gs0 s H Qd (h.co.offers_send j.ch);rw[U8]at r;simp only[oC]at r;have C:=h.co.take aC h0 h.gs0 h.q0 T z (hV v D) H (fn:=(G fa ca).frame.fn) (pos:=(G fa ca).frame.place);have Q:M k=none:=(h.co.excl k p z).1;refine⟨_,_,_,_,r,kk v D (fa:=fa.finish v) (ca:=ca) ⟨C,by rw[dW];exact h.tree,fun i m O b=>?_,fun x o=>?_,⟨s0,upd_same _ _ _⟩,?_,h.q0,?_,(by intro c H;cases H),fun Y X F=>?_⟩⟩;·rw[upd_ne _ _ Qa]at b;exact h.halts i m O b
  .rw[upd_ne _ _ (show x≠0 by omega)];by_cases e:x=k;·subst e;rw[upd_same,Q];simp
   .rw[upd_ne _ _ e,h.un x o];simp[e]
  .exact bX I
  .obtain⟨L,K,g,R,A,g3⟩:=C.live 0 _ (upd_same _ _ _);rw[bX I]at R;rcases A with⟨_,A⟩|⟨A,_⟩;case inr=>omega
   have e:=(R' R).trans A;have e2:fa.finish v=L/\ca=K:=by simp only[cH,G,bS,bQ]at e;exact e
   obtain⟨rfl,rfl⟩:=e2;exact g3
  .obtain⟨R,A⟩:=h.jlt Y X F;exact⟨by simpa using R,by simpa [World.setChan] using A⟩|none=>
  have Q:M k≠none:=by
   rcases(h.un k hk).1 hU with x|x;·exact x
   .exact absurd z x
  obtain⟨m,b⟩:∃m,M k=some m:=by cases e:M k with
   |none=>exact absurd e Q|some m=>exact⟨m,rfl⟩
  let a:Frame->List Frame->World->Prop:=fun f cs _=>cs≠[]/\∀c,f.mode≠.panicking c;have aH:Halts a:=⟨fun f cs l h=>h,fun f cs l t d h=>h⟩;have aD:a n.f n.cs n.l:=by refine⟨?_,h.rel.st.head.noPanic.1⟩;have:=h.rel.st;intro e;rw[e]at this;cases this with|cons _ _ _ _ _ _ hs=>cases hs
  have aF:=Zt h a;have aJ:W E (upd M 0 (some {n with stop:=a})):=by have:=h.tree.add (LG.stop n.f n.cs n.l aD) (upd_same _ _ _) n.sh n.bs n.B;rwa [dW]at this
  have aA:upd M 0 (some {n with stop:=a}) k=some m:=by rw[upd_ne _ _ Qa];exact b
  have aG:=aF.park (upd_same _ _ _) h.gs0 h.q0 hk T aA u;have H:=h.co.chanM k j m T b;have r:=crowd_waits (P:=E.P) (sl:=sl) (shape:=.recv false) h.gs0 s (by
   intro cc aM;obtain rfl:cc=rcase j.ch u:=by simpa using aM
   exact ways_recv_none H (h.co.offers_send j.ch));rw[U8]at r;refine⟨_,_,_,_,r,?_⟩;rw[Q'];refine zQ (U:=U) hG aC hJ aJ aG (fun i m' O=>?_) (fun x o=>?_) (by intro _ _ _ _ _ _ _ _ _ _ e;cases e) ?_
  .rcases upd_some O with⟨_,rfl⟩|⟨h1,O⟩;·exact aH
   .exact h.halts i m' (iM h1) O
  .rw[upd_ne _ _ Qa];exact h.un x o
  .intro M' S' aU w' aV t' q' n1 v aW Y X hz F D aB aI C aL Z aT aK aS aE;have aO:X.ch=j.ch:=by simp only[Zs.park.injEq]at hz;exact hz.1.symm
   have aP:Y=k:=h.co.one Y k X j F T aO;subst aP;rw[T]at F;cases F;rw[upd_same]at aB;cases aB;obtain⟨L,K,g,R,A,g3⟩:=C.live 0 _ Z;rcases A with⟨aR,A⟩|⟨A,_⟩;case inr=>omega
   have e:g=G L K:=A;subst e;refine kk v D ⟨C,aL,fun i m' O aQ=>?_,fun x o=>?_,⟨_,Z⟩,R,aR,g3,(by intro c H;cases H),fun k2 j2 aN=>?_⟩;·obtain⟨m1,q1,_,_,q4,_⟩:=aI.node i m' (by rw[upd_ne _ _ Qa];exact aQ);rw[upd_ne _ _ Qa]at q1;rw[q4];exact h.halts i m1 O q1
   .obtain⟨u1,u2⟩:=aK x o;constructor;·rintro⟨a1,a2⟩;cases e1:M' x with|some _=>exact .inl Qd|none=>cases e2:S' x with
      |some _=>exact .inr Qd|none=>
       rcases u1 e2 e1 with y|y;·exact absurd a1 y
       .exact absurd y a2
    .exact u2
   .obtain⟨g4,g5⟩:=h.jlt k2 j2 aN;exact⟨by rw[aS];simpa using g4,h8 g5 aE⟩
end
section
variable {E:Env} {W0:World} {J:aL} {U:hN} {Ch:hB} {Post:hS} {n:Node}
def QW(r:E.sh=true)(a:∀{fa:y1} {ca:hA} {w:World},Rel E n.sh n.bs n.B n.f n.cs n.l fa ca w->stepG E.P true (G fa ca) w=.go (G (fa.finish (.chan (some w.heap.size))) ca) (w.alloc (.chan 1 #[] false 0 0 false)) #[])(V:∀c,W0.heap.size<=c->KGo E W0 J U (some c) Post {n with f:=n.f.finish (.chan (some c))}):gG E W0 J U none Post n:=by
 intro M S d w sl t q fa ca h;obtain⟨Z,F⟩:=h.node;have p:0<d.size:=(bO.1 h.gs0).1;have O:stepG E.P (0==0) (G fa ca) w=_:=a h.rel;have g:=U7 (P:=E.P) (sl:=sl) (i:=0) h.gs0 O;rw[U8]at g;have v:=h.co.made (w':=w.alloc (.chan 1 #[] false 0 0 false)) r F h.gs0 h.q0 (VR.chan (some w.heap.size)) rfl ⟨rfl,rfl,rfl⟩;have s:(w.alloc (.chan 1 #[] false 0 0 false)).heap.size=w.heap.size+1:=Qd
 refine⟨_,_,_,_,g,?_⟩;rw[Q'];refine V w.heap.size h.co.keep.1 (fa:=fa.finish (.chan (some w.heap.size))) (ca:=ca) ⟨v,by rw[dW];exact h.tree,fun i m L A=>?_,fun x Q=>?_,⟨Z,upd_same _ _ _⟩,?_,h.q0,?_,fun c K=>?_,fun T R y=>?_⟩;·rw[upd_ne _ _ Qa]at A;exact h.halts i m L A
 .rw[upd_ne _ _ (show x≠0 by omega)];exact h.un x Q
 .exact bX (by simpa using p)
 .have H:Rel E n.sh n.bs n.B n.f n.cs n.l fa ca (w.alloc (.chan 1 #[] false 0 0 false)):=S2 r h.rel (by rw[s];omega) fun b x I=>by have:=(R2 h.rel I).1;show (w.heap.push _)[x]?=_;rw[dP this,e3 this]
  exact H.fin (VR.chan _)
 .obtain rfl:=R' K;refine⟨?_,h.co.keep.1,fun k j N e=>?_⟩;·show (w.heap.push _)[w.heap.size]?=_;simp
  .have:=(h.jlt k j N).2;omega
 .obtain⟨C,o⟩:=h.jlt T R y;exact⟨by simpa using C,by rw[s];omega⟩
def QX{c:Nat} {jb:Job} (F:jb.ch=c) {nK:Node} (C:nK.stop=jb.stop)(V:nK.bs=jb.bs)(hH:Halts jb.stop)(hL:LG E jb.stop nK.f nK.cs nK.l)(Y:∀b x,nK.B b x->nK.sh b/\∃o,n.B o x/\n.sh o)(d:∀{fa:y1} {ca:hA} {w:World},Rel E n.sh n.bs n.B n.f n.cs n.l fa ca w->∃g N L,stepG E.P true (G fa ca) w=.spawn (G (fa.finish undef) ca) g w #[]/\g.status=.running/\(∀w,stepG E.P false g w=.go (G N L) w #[])/\Rel E nK.sh nK.bs nK.B nK.f nK.cs nK.l N L w)(kk:∀K,0<K->J K=none->KGo E W0 (upd J K (some jb)) (fun x=>U x∨x=K) none Post {n with f:=n.f.finish undef}):gG E W0 J U (some c) Post n:=by
 intro M S a w sl t q fa ca h;obtain⟨s0,W⟩:=h.node;have s:0<a.size:=(bO.1 h.gs0).1;obtain⟨g,N,L,hs,R,T,hR⟩:=d h.rel;obtain⟨z,p2,p3⟩:=h.pend c rfl;have Z:stepG E.P (0==0) (G fa ca) w=_:=hs;have v:=runT_crowd_spawn (P:=E.P) (sl:=sl) (i:=0) h.gs0 Z;rw[U8]at v;have y:J a.size=none:=by cases e:J a.size with|none=>rfl|some j=>exact absurd (h.jlt _ j e).1 (X3 _)
 have O:=h.co.spawn W h.gs0 h.q0 y V C (by rw[F];exact z) (fun k j H=>by rw[F];exact p3 k j H) (by rw[F];exact p2) R T hR Y (fn:=(G fa ca).frame.fn) (fn':=g.frame.fn) (pos:=(G fa ca).frame.place);have Q:M a.size=none:=by cases e:M a.size with
  |none=>rfl|some m=>obtain⟨_,_,_,u,_⟩:=h.co.live _ m e;exact absurd (bO.1 u).1 (X3 _)
 have aA:S a.size=none:=by cases e:S a.size with|none=>rfl|some p=>obtain⟨j,H⟩:=h.co.job a.size s (.inr (by rw[e];simp));rw[y]at H;cases H
 have r:a.size≠0:=Qa
 refine⟨_,_,_,_,v,kk a.size s y (fa:=fa.finish undef) (ca:=ca) ⟨O,?_,fun i m hi I=>?_,fun x hx=>?_,⟨s0,?_⟩,?_,?_,h.rel.fin undefR,(by intro c F;cases F),fun k' j' A=>?_⟩⟩;·rw[mF _ r,dW];have:=h.tree.add hL (i:=a.size) (by rw[upd_ne _ _ r];exact Q) nK.sh nK.bs nK.B;rw[<-C]at this;exact this
 .rcases upd_some I with⟨rfl,rfl⟩|⟨_,I⟩;·rw[C];exact hH
  .rw[upd_ne _ _ Qa]at I;exact h.halts i m hi I
 .by_cases e:x=a.size;·subst e;rw[upd_same];simp
  .rw[upd_ne _ _ e,upd_ne _ _ Qa];simp only[e,ZyH];exact h.un x hx
 .rw[upd_ne _ _ (fun e=>r e.symm),upd_same]
 .rw[eS,q' (by simpa using fun e=>r e.symm),bX s]
 .rw[upd_ne _ _ (fun e=>r e.symm)];exact h.q0
 .rcases upd_some A with⟨rfl,rfl⟩|⟨_,A⟩;·refine⟨Qd,?_⟩;rw[F];exact(bO.1 z).1
  .obtain⟨u,D⟩:=h.jlt k' j' A;exact⟨Qk,D⟩
def QY{a:Node} (d:∀{fa:y1} {ca:hA} {w:World},Rel E n.sh n.bs n.B n.f n.cs n.l fa ca w->Rel E a.sh a.bs a.B a.f a.cs a.l fa ca w)(e:∀b' x,a.B b' x->∃b,n.B b x/\(n.sh b->a.sh b'))(k:KGo E W0 J U Ch Post a):KGo E W0 J U Ch Post n:=by intro M S o w s t q fa ca h;obtain⟨r,g⟩:=h.node;exact k ⟨h.co.renode g h.gs0 h.q0 (d h.rel) e,by rw[dW];exact h.tree,fun i m j c=>by rw[upd_ne _ _ Qa]at c;exact h.halts i m j c,fun x p=>by rw[upd_ne _ _ Qa];exact h.un x p,⟨a.stop,upd_same _ _ _⟩,h.gs0,h.q0,d h.rel,h.pend,h.jlt⟩
def QZ{a:Node} (d:∀{fa:y1} {ca:hA} {w:World},Rel E n.sh n.bs n.B n.f n.cs n.l fa ca w->Rel E a.sh a.bs a.B a.f a.cs a.l fa ca w)(e:∀b' x,a.B b' x->∃b,n.B b x/\(n.sh b->a.sh b'))(k:gG E W0 J U Ch Post a):gG E W0 J U Ch Post n:=by intro M S o w s t q fa ca h;obtain⟨r,g⟩:=h.node;exact k ⟨h.co.renode g h.gs0 h.q0 (d h.rel) e,by rw[dW];exact h.tree,fun i m j c=>by rw[upd_ne _ _ Qa]at c;exact h.halts i m j c,fun x p=>by rw[upd_ne _ _ Qa];exact h.un x p,⟨a.stop,upd_same _ _ _⟩,h.gs0,h.q0,d h.rel,h.pend,h.jlt⟩
def Q4{w:World} {d:hE} {X:Option (Nat×Nat)} {t:Trace} {q:c6} {fa:y1} {ca:hA} (o:d[0]?=some (G fa ca))(u:Leavers E.P t d q)(v:Past (fun _=>False) w.heap.size t)(z:Rel E n.sh n.bs n.B n.f n.cs n.l fa ca w)(D:∀b x,n.B b x->n.sh b)(k:KGo E w (fun _=>none) (fun _=>False) none Post n):Fin E.P Post d w X t:=by
 have F:0<d.size:=(bO.1 o).1;refine k (M:=upd (fun _=>none) 0 (some n)) (S:=fun _=>none) (q:=upd q 0 0) (fa:=fa) (ca:=ca) ⟨⟨fun i m h=>?_,fun i g h s H=>?_,fun i h=>?_,by rw[upd_same];simp,fun i j m Z b c x I h r A C=>?_,⟨v.clean,v.seen,fun i a y s j m r=>?_,fun i a y s=>?_⟩,(by intro k j m r;cases r),(by intro k j p r;cases r),fun k K s=>?_,(by intro k V j T r;cases r),(by intro k j r;cases r),(by intro k p L;cases L),(by intro c Y O;cases O),(by intro k j m K r;cases r),fun i m b x h A N=>?_,⟨sW _,fun _ _=>rfl⟩,⟨rfl,rfl,rfl⟩⟩,?_,fun i m h s=>?_,fun x N=>?_,⟨n.stop,upd_same _ _ _⟩,o,upd_same _ _ _,z,(by intro c C;cases C),(by intro k j r;cases r)⟩
 .rcases upd_some h with⟨rfl,rfl⟩|⟨_,h⟩;·exact⟨fa,ca,G fa ca,o,.inl ⟨upd_same _ _ _,rfl⟩,z⟩
  .cases h
 .rw[upd_ne _ _ Qa];exact u.old i g h H
 .by_cases e:i=0;·subst e;exact v.hears
  .rcases h with h|h;·rw[upd_ne _ _ e]at h;exact absurd rfl h
   .exact u.above i h
 .rcases upd_some h with⟨Q,_⟩|⟨_,h⟩
  .rcases upd_some r with⟨R,_⟩|⟨_,r⟩;·omega
   .cases r
  .cases h
 .rcases upd_some r with⟨rfl,rfl⟩|⟨_,r⟩
  .rcases v.known i a y s with x|x;·exact .inl x
   .exact x.1.elim
  .cases r
 .rcases v.known i a y s with x|x;·exact .inl x
  .exact x.1.elim
 .rw[upd_ne _ _ Qa]at s;rcases s with x|x<;>exact absurd rfl x
 .rcases upd_some h with⟨rfl,rfl⟩|⟨_,h⟩;·exact D b x A
  .cases h
 .rw[dW,vX _ _ _ rfl];exact W.empty
 .rw[upd_ne _ _ Qa]at s;cases s
 .rw[upd_ne _ _ Qa];simp
def Q6(k:∀{w:World} {b:hE} {sl:Option (Nat×Nat)} {t:Trace} {q:c6} {fa:y1} {ca:hA},b[0]?=some (G fa ca)->Leavers E.P t b q->Past (fun _=>False) w.heap.size t->Rel E n.sh n.bs n.B n.f n.cs n.l fa ca w->W0.heap.size<=w.heap.size->(∀x,x<W0.heap.size->w.heap[x]?=W0.heap[x]?)->w.os=W0.os/\w.output=W0.output/\w.tape=W0.tape->oJ E.P Post b w sl t 0)(O:∀x,0<x->¬U x):gG E W0 J U Ch Post n:=by
 intro M S b w sl t q fa ca h;obtain⟨V,N⟩:=h.node;have C:∀i,0<i->M i=none/\S i=none:=by
  intro i s;have:=fun y=>O i s ((h.un i s).2 y);constructor;·cases e:M i with
   |none=>rfl|some _=>exact absurd (.inl (by rw[e];simp)) this
  .cases e:S i with|none=>rfl|some _=>exact absurd (.inr (by rw[e];simp)) this
 have v:∀i a,touchAt t i=some a->a.loc.isMemory=true->Knows t 0 i:=by
  intro i a F I;rcases h.co.tr.hand i a F I with x|⟨k,m,c,r⟩|⟨k,p,c,r⟩;·exact x
  .by_cases e:k=0;·subst e;exact r
   .rw[(C k Qa).1]at c;cases c
  .have:=(h.co.excl k p c).2;rw[(C k this).2]at c;cases c
 refine k h.gs0 ⟨fun i g s H=>h.co.old i g s (C i s).1 H,fun j R=>h.co.deaf j (.inr R)⟩ ⟨h.co.tr.clean,fun i a F I=>.inl (v i a F I),fun i g H K Q=>?_,h.co.deaf 0 (.inl (by rw[N];simp)),h.co.tr.seen⟩ h.rel h.co.keep.1 h.co.keep.2 h.co.same;obtain⟨x,T,L,_⟩:=Q;obtain⟨p,z,c,r,A⟩:=v i x T L;refine⟨p,by simp[Trace.g?,c,r],?_⟩;rcases A with rfl|A
 .exfalso;have:z.g=g:=by simpa [Trace.g?,c] using H
  exact K (this.symm.trans r)
 .exact A
end
end Go.Twin
namespace Go.Twin
open Go.Conc
section
variable {E:Env} {Stop:aH}
def LG.re(b:Halts Stop) {f:y1} {cs:hA} {l:World} (h:LG E Stop f cs l)(t:aJ)(d:Nat):LG E Stop f cs (l.re t d):=by cases h with|stop f cs l h=>exact .stop _ _ _ (b.tape _ _ _ t d h)|step f cs l hc hg hs=>exact .step _ _ _ hc (fun g c=>hg g c) fun g c=>hs g c
variable {b:y1} {a:Act} {k:List Item} {cs:hA} {l l':World}
def gO(e:Halts Stop) {f g:y1} {c:hA} (j:f.mode=.run->Chk E f)(h:∀w,stepG E.P true (G f cs) w=.go (G g c) w #[])(k:LG E Stop g c l):LG E Stop f cs l:=LG.one j (W:=fun t d=>l.re t d) (es:=fun _ _=>#[]) (fun t d=>h _) fun t d=>k.re e t d
def dG(c:Halts Stop) {x y:Code} (h:LG E Stop (b.at a (.code x::.code y::k)) cs l):LG E Stop (b.at a (.code (.seq x y)::k)) cs l:=gO c (fun _=>trivial) (fun w=>stepG_seq) h
def dO(e:Halts Stop) {c:Nat} {d:aG} (h:LG E Stop (b.at a (.inRegion d (List.range d.size)::k)) cs l):LG E Stop (b.at a (.code (.region c d false)::k)) cs l:=gO e (fun _=>trivial) (fun w=>stepG_region) h
def A9(d:Halts Stop) {c:aG} (h:LG E Stop (b.at a k) cs l):LG E Stop (b.at a (.inRegion c []::k)) cs l:=gO d (fun _=>trivial) (fun w=>stepG_region_end) h
def vY(d:Halts Stop) {c:Operand} {x y:Code} {t:Bool} (g:E.operand c=true)(h:a.eval c=.bool t)(f:LG E Stop (b.at a (.code (if t then x else y)::k)) cs l):LG E Stop (b.at a (.code (.cond c x y)::k)) cs l:=gO d (fun _=>g) (fun w=>stepG_cond h) f
def zR(c:Halts Stop) (h:LG E Stop (b.at a k) cs l):LG E Stop (b.at a (.code .skip::k)) cs l:=gO c (fun _=>trivial) (fun w=>stepG_skip) h
def Q8(c:Halts Stop) (h:LG E Stop {b.at a (.code .ret::k)with mode:=.returning} cs l):LG E Stop (b.at a (.code .ret::k)) cs l:=gO c (fun _=>trivial) (fun w=>stepG_ret') h
variable {ops:aG} {i:Nat} {rest:y0} {o:Oper}
def fV{g:FuncId} {args:bJ} (e:Halts Stop)(j:ops[i]?=some o)(q:Region.wanted o (yielded ops a.tmps)=true)(n:b.kind≠.early)(f:E.op o.op=true)(m:∀w,(execOp a.eval o).run E.P w=.ok (.enter g args) w) (h:LG E Stop (Frame.enter E.P g args .normal) (b.at a (.inRegion ops (i::rest)::k)::cs) l):LG E Stop (b.at a (.inRegion ops (i::rest)::k)) cs l:=LG.one (W:=fun t d=>l.re t d) (fun _ p c=>by rw[j]at c;cases c;exact f) (fun t d=>stepG_enter j q n (m _)) fun t d=>h.re e t d
def RA{fn:Func} {f:List Item} {c:y1} {v:Value} (d:Halts Stop)(p:b.kind=.normal)(g:a.defers=[])(e:E.P.funcs[b.fn]?=some fn)(r:∀w,(results fn a.tmps).run E.P w=.ok v w)(j:∀w,(results fn a.tmps).events E.P w #[]=#[])(h:LG E Stop (c.finish v) cs l):LG E Stop {b.at a f with mode:=.returning} (c::cs) l:=gO d (fun m=>by cases m) (fun w=>stepG_leave p g e (r w) (j w)) h
end
section
variable {E:Env} {B:Blk}
def FR.at_eq {f a:y1} (h:FR E B f a) (b:f.mode=.run) (j:f.roundOf=none):a=a.at ⟨a.tmps,a.defers⟩ a.todo:=by
 have c:a.mode=.run:=by
  rcases h.mode with⟨_,x⟩|⟨x,_⟩;·exact x
  .rw[b]at x;cases x
 have g:a.roundOf=none:=by
  rcases h.round with⟨_,x⟩|⟨l,d,x,_⟩;·exact x
  .rw[j]at x;cases x
 obtain⟨p,A,y,m,s,r,v⟩:=a;dsimp only at c g;subst c g;rfl
def FR.noEarly{f c:y1} (h:FR E B f c):c.kind≠.early:=by rcases h.kind.2 with x|⟨_,x⟩<;>rw[x]<;>simp
def FR.region{f b:y1} (h:FR E B f b) {a:aG} {j:y0} {k:List Item} (m:f.todo=.inRegion a j::k):∃c,b.todo=.inRegion a j::c/\KR E B k c:=by have g:=h.todo;rw[m]at g;generalize b.todo=x at g |-;cases g with|cons y y' k c hy hs=>cases hy with|inRegion a j ho=>exact⟨c,rfl,hs⟩
def FR.oper {f d:y1} (h:FR E B f d) (e:f.mode=.run) (p:f.roundOf=none) {ops:aG} {i:Nat} {rest:y0} {k:List Item} (r:f.todo=.inRegion ops (i::rest)::k):∃c,d=d.at ⟨d.tmps,d.defers⟩ (.inRegion ops (i::rest)::c)/\KR E B k c:=by obtain⟨c,j,m⟩:=h.region r;have g:=h.at_eq e p;rw[j]at g;exact⟨c,g,m⟩
end
def bot(P:aA):Frame:={(default:y1)with fn:=P.funcs.size,defers:=[],mode:=.panicking [goexitEntry]}
def dJ:Nat->Value->Bool|0,_=>false|n+1,v=>match v with|.bool _|.int ..|.string _|.pointer none|.slice none ..|.nilFunc|.nilIface|.chan none=>true|.iface _ v=>dJ n v|.agg xs=>xs.all (dJ n)| .tuple xs => xs.size != 0 && xs.all (dJ n)|_=>false
def tQ:∀(n:Nat)(v:Value),dJ n v=true->bG n v=true|0,v,h=>by simp[dJ]at h|n+1,v,h=>by unfold dJ at h;unfold bG;split at h<;>first|rfl|exact tQ n _ h|(rw[dS]at h |-;exact fun x c=>tQ n x (h x c))|(rw[aY,dS]at h;rw[dS];exact fun x c=>tQ n x (h.2 x c))|cases h
section
variable {E:Env} {B:Blk}
def Zi:∀(n:Nat){v j:Value},dJ n v=true->VR E B v j->v=j|0,v,j,h,_=>by simp[dJ]at h|n+1,v,j,h,hv=>by cases hv with|iface t x x' hx=>have f:dJ n x=true:=h;rw[Zi n f hx]|agg xs xs' hx hxs=>have f:xs.all (dJ n)=true:=h;rw[dS]at f;congr 1;exact xA hx fun i g m=>Zi n (f _ (Array.getElem_mem g)) (hxs i _ _ (e3 g) (e3 m))|tuple xs xs' hx hxs=>have f : (xs.size != 0 && xs.all (dJ n)) = true := h;rw[aY,dS]at f;congr 1;exact xA hx fun i g m=>Zi n (f.2 _ (Array.getElem_mem g)) (hxs i _ _ (e3 g) (e3 m))|ptr a a' ha=>cases h|slice a a' l c ha=>cases h|slice0 a hz=>rfl|func=>cases h|junk v hf hb=>simp[dJ]at h|chan r=>rfl|_=>rfl
end
abbrev _root_.fC:=Value->Prop
def N3(P:aA)(F c:Nat)(V:fC)(f:y1)(cs:hA)(l:World):Prop:=cs=[ZJ P]/\∃(a:Act)(x y:Operand)(d:aG)(i:Nat)(o:Oper)(k:List Item),f=(base F).at a (.inRegion d [i]::k)/\a.defers=[]/\d[i]?=some o/\o.op=.send x y/\o.guard=none/\(∃n,x=.tmp n)/\(∃n,y=.tmp n)/\a.eval x=.chan (some c)/\V (a.eval y)/\dJ 8 (a.eval y)=true/\(k=[]∨∃r,k=.code .ret::r)
section
variable {E:Env}
def vZ(P:aA)(F g:Nat)(V:fC):Halts (N3 P F g V):=⟨fun f cs l h=>by obtain⟨rfl,a,x,y,b,i,o,k,rfl,_⟩:=h;exact⟨Qd,fun c j=>by cases j⟩,fun f cs l t d h=>h⟩
def RB{P:aA} {F:Nat} {fn:Func} {d:y1} (e:P.funcs[F]?=some fn)(f:fn.results=#[])(hF:d.fn=F)(n:d.mode=.returning)(c:d.defers=[])(l:d.kind=.normal∨d.kind=.deferred):QuitsD P 2 0 (G d [bot P]):=by
 obtain⟨h,s,r,g,m,j,p⟩:=d;dsimp only at hF n c l;subst hF n c;refine uB (g':=G (bot P) []) rfl (fun w=>?_) ?_
 .rcases l with rfl|rfl;·simp[G,stepG,unwind,doReturn,results,e,f,seen,GStep.after,bot,goexitEntry,Frame.finish];rfl
  .simp[G,stepG,unwind,doReturn,results,e,f,seen,GStep.after,bot,goexitEntry]
 refine uB (g':={G (bot P) []with status:=.finished}) rfl (fun w=>?_) ⟨rfl,rfl⟩;simp[G,stepG,unwind,bot,goexitEntry,Frame.catches];rfl
def wB{F j:Nat} {V:fC} {fn:Func} (hf:E.P.funcs[F]?=some fn)(hr:fn.results=#[]):eP E ⟨j,V,[bot E.P],N3 E.P F j V⟩:=by intro sh B f cs l d ca w s hR;obtain⟨rfl,a,x,y,ops,i,o,k,rfl,hd,Z,O,hg,⟨n,rfl⟩,⟨m,rfl⟩,hx,hV,A,hk⟩:=s;have s:=hR.st;cases s with
 |cons _ _ _ _ _ _ hs=>cases hs with|cons _ _ _ _ _ _ h=>cases h
 |last _ _ hF hrd=>
  obtain⟨K,e,H⟩:=hF.oper rfl rfl rfl;have T:=hF.tmps;have D:(a.tmps.getD n undef)=.chan (some j):=hx;have M:(d.tmps.getD n undef)=.chan (some j):=by
   have:=T.getD n (undefR (G:=E) (B:=B));have Q:VR E B (.chan (some j)) (d.tmps.getD n undef):=by rw[<-D];exact this
   generalize d.tmps.getD n undef=v at Q |-;cases Q;rfl
  have U:(d.tmps.getD m undef)=a.tmps.getD m undef:=(Zi 8 A (T.getD m (undefR (G:=E) (B:=B)))).symm;have N:d.defers=[]:=by
   have:=hF.defers;have R:DR B [] d.defers:=by rw[<-hd];exact this
   generalize d.defers=z at R |-;cases R;rfl
  have p:d.kind=.normal∨d.kind=.deferred:=hF.kind.2.imp id fun z=>z.2;have C:execOp (⟨d.tmps,d.defers⟩:Act).eval o=Pure.pure (.comm #[{chan:=(⟨d.tmps,d.defers⟩:Act).eval (.tmp n),send:=some ((⟨d.tmps,d.defers⟩:Act).eval (.tmp m)),zero:=.tuple #[]}] true .send):=by unfold execOp;rw[O]
  have I:∀w,(execOp (⟨d.tmps,d.defers⟩:Act).eval o).run E.P w=.ok (.comm #[scase j (a.eval (.tmp m)) (.tuple #[])] true .send) w:=by intro w;have W:(⟨d.tmps,d.defers⟩:Act).eval (.tmp n)=.chan (some j):=M;have e5:(⟨d.tmps,d.defers⟩:Act).eval (.tmp m)=a.eval (.tmp m):=U;rw[C,W,e5];rfl
  have L:∀w,(execOp (⟨d.tmps,d.defers⟩:Act).eval o).events E.P w #[]=#[]:=by intro w;rw[C];rfl
  have hw:Region.wanted o (yielded ops d.tmps)=true:=by unfold Region.wanted;rw[hg]
  have g:=stepG_comm (P:=E.P) (main:=false) (b:=d) (a:=⟨d.tmps,d.defers⟩) (k:=K) (cs:=[bot E.P]) (rest:=[]) Z hw hF.noEarly (I w);rw[kA (L w),<-e]at g;refine⟨a.eval (.tmp m),.tuple #[],_,4,hV,tQ 8 _ A,g,?_⟩;rw[e];have e6:Go.Conc.served (G (d.at ⟨d.tmps,d.defers⟩ (.inRegion ops [i]::K)) [bot E.P]) undef=G (d.at ((⟨d.tmps,d.defers⟩:Act).put o.dst undef) (.inRegion ops []::K)) [bot E.P]:=by have:=cL d ⟨d.tmps,d.defers⟩ (ops:=ops) (i:=i) (rest:=[]) (k:=K) undef;show G ((d.at ⟨d.tmps,d.defers⟩ (.inRegion ops [i]::K)).finish undef) [bot E.P]=_;rw[this,Z];rfl
  rw[e6];refine uB rfl (fun w=>stepG_region_end) ?_;have q:∀t,QuitsD E.P 2 0 (G { d.at ((⟨d.tmps,d.defers⟩:Act).put o.dst undef) t with mode:=.returning } [bot E.P]):=by
   intro t;refine RB (F:=F) hf hr ?_ rfl ?_ p;·show d.fn=F;exact hF.fn.symm
   .show ((⟨d.tmps,d.defers⟩:Act).put o.dst undef).defers=[];cases o.dst<;>exact N
  rcases hk with rfl|⟨r,rfl⟩;·cases H;refine uB rfl (fun w=>stepG_end) ?_;exact q []
  .cases H with|cons y y' k k2 hy hs=>cases hy with|code c hc=>refine uB rfl (fun w=>stepG_ret') ?_;exact q _
end
section
variable {E:Env} {n:Node} {fa:y1} {ca:hA} {w:World}
def RD{d:aG} {i:Nat} {rest:y0} {o:Oper} {k:List Item} {x:Nat} {c:Nat} {t:Value} (z:n.f.mode=.run)(y:n.f.roundOf=none)(A:n.f.todo=.inRegion d (i::rest)::k)(s:d[i]?=some o)(p:o.guard=none)(D:n.f.tmps.getD x undef=.chan (some c))(q:∀(ρ:aE)(w:World),(execOp ρ o).run E.P w=.ok (.comm #[{chan:=ρ (.tmp x),send:=none,zero:=t}] true (.recv false)) w)(j:∀(ρ:aE)(w:World),(execOp ρ o).events E.P w #[]=#[])(u:Rel E n.sh n.bs n.B n.f n.cs n.l fa ca w):∃t,stepG E.P true (G fa ca) w=.comm (G fa ca) #[rcase c t] true (.recv false) w #[]:=by
 have hF:=u.st.head;obtain⟨F,e,r⟩:=hF.oper z y A;have m:(⟨fa.tmps,fa.defers⟩:Act).eval (.tmp x)=.chan (some c):=by have h:VR E n.B (n.f.tmps.getD x undef) (fa.tmps.getD x undef):=hF.tmps.getD x (undefR (G:=E) (B:=n.B));rw[D]at h;show fa.tmps.getD x undef=_;generalize fa.tmps.getD x undef=v at h |-;cases h;rfl
 have C:Region.wanted o (yielded d fa.tmps)=true:=by unfold Region.wanted;rw[p]
 have g:=stepG_comm (P:=E.P) (main:=true) (b:=fa) (a:=⟨fa.tmps,fa.defers⟩) (k:=F) (cs:=ca) (rest:=rest) s C hF.noEarly (q _ w);rw[kA (j _ w),<-e,m]at g;exact⟨t,g⟩
def RE{d:aG} {i:Nat} {rest:y0} {o:Oper} {k:List Item} (u:n.f.mode=.run)(v:n.f.roundOf=none)(x:n.f.todo=.inRegion d (i::rest)::k)(m:d[i]?=some o)(r:o.guard=none)(q:∀(a:Act) (w:World),(execOp a.eval o).run E.P w=.ok (.value (.chan (some w.heap.size))) (w.alloc (.chan 1 #[] false 0 0 false))) (g:∀(a:Act) (w:World),(execOp a.eval o).events E.P w #[]=#[])(t:Rel E n.sh n.bs n.B n.f n.cs n.l fa ca w):stepG E.P true (G fa ca) w=.go (G (fa.finish (.chan (some w.heap.size))) ca) (w.alloc (.chan 1 #[] false 0 0 false)) #[]:=by
 have hF:=t.st.head;obtain⟨h,e,s⟩:=hF.oper u v x;have y:Region.wanted o (yielded d fa.tmps)=true:=by unfold Region.wanted;rw[r]
 have c:=stepG_value (P:=E.P) (main:=true) (b:=fa) (a:=⟨fa.tmps,fa.defers⟩) (k:=h) (cs:=ca) (rest:=rest) m y hF.noEarly (q _ w);rw[kA (g _ w)]at c;have j:=cL fa ⟨fa.tmps,fa.defers⟩ d i rest h (.chan (some w.heap.size));rw[m]at j;have p:fa.finish (.chan (some w.heap.size))=fa.at ((⟨fa.tmps,fa.defers⟩:Act).put o.dst (.chan (some w.heap.size))) (.inRegion d rest::h):=by rw[e];exact j
 rw[p,<-c,<-e]
def Blk.on(B:Blk)(X:hN):Blk:=fun b x=>B b x/\X b
def idX(X:hN):Blk:=fun b c=>b=c/\X b
def zS{X:hN}:∀b b',idX X b b'->b=b':=fun b b' h=>h.1
def VR.on{S E:Env} (p:SubG S E E) {B:Blk} {X:hN} {v A:Value} (h:VR E B v A):VR S (idX X) v v->VR E (B.on X) v A:=by induction h with
 |bool b=>exact fun _=>.bool b|int k n=>exact fun _=>.int k n|string s=>exact fun _=>.string s|nilPtr=>exact fun _=>.nilPtr|ptr a a' ha=>intro m;cases ha with|mk b b' o s hb=>cases m with|ptr _ _ h2=>cases h2 with|mk _ _ _ _ hx=>exact .ptr _ _ (.mk _ _ _ _ ⟨hb,hx.2⟩)
 |nilSlice l c=>exact fun _=>.nilSlice l c|slice a a' l c ha=>intro m;cases ha with|mk b b' o s hb=>cases m with
   |slice _ _ _ _ h2=>cases h2 with|mk _ _ _ _ hx=>exact .slice _ _ _ _ (.mk _ _ _ _ ⟨hb,hx.2⟩)
   |slice0 _ hz=>rw[p.s]at hz;cases hz
 |slice0 a hz=>rw[p.e]at hz;cases hz|func fn fn' xs xs' ys ys' hf hx hxs hy hys ih1 ih2=>intro m;cases m with|func _ _ _ _ _ _ h1 _ h2 _ h3=>refine .func _ _ _ _ _ _ ?_ hx (fun i u x g j=>ih1 i u x g j (h2 i u u g g)) hy fun i u x g j=>ih2 i u x g j (h3 i u u g g);cases hf with|func f hg=>exact .func f hg|yield a b hb=>cases h1 with|yield _ _ hl=>exact .yield _ _ ⟨hb,hl.2⟩
 |nilFunc=>exact fun _=>.nilFunc|iface t v A _ ih=>intro m;cases m with|iface _ _ _ h2=>exact .iface _ _ _ (ih h2)
 |nilIface=>exact fun _=>.nilIface|chan r=>exact fun _=>.chan r|junk v hf hv=>exact fun _=>.junk v hf hv|agg xs xs' hx hxs ih=>intro m;cases m with|agg _ _ _ h2=>exact .agg _ _ hx fun i u x g j=>ih i u x g j (h2 i u u g g)
 |tuple xs xs' hx hxs ih=>intro m;generalize y:Value.tuple xs=q at m;cases m with|tuple _ _ _ h2=>cases y;exact .tuple _ _ hx fun i u x g j=>ih i u x g j (h2 i u u g g)|junk _ _ _=>cases y;exact .tuple _ _ hx fun i u x g j=>(by simp at g)|_=>cases y
def AR.on{S E:Env} (c:SubG S E E) {B:Blk} {X:hN} {e d:bJ} (h:AR E B e d)(j:∀v∈e,VR S (idX X) v v):AR E (B.on X) e d:=⟨h.size,fun i v m g f=>(h.at_ i v m g f).on c (j v (cP g))⟩
def cK(S:Env)(X:hN)(l:World):Prop:=∀b,X b->∃c T f,l.heap[b]?=some (.cells c T f)/\∀v∈c,VR S (idX X) v v
def Zu{S:Env} {X:hN} {a:bJ} (h:∀v∈a,VR S (idX X) v v):AR S (idX X) a a:=⟨rfl,fun i v g f c=>by rw[f]at c;cases c;exact h v (cP f)⟩
def RF{P:aA} {F:Nat} {fn:Func} {c:Code} (h:P.funcs[F]?=some fn)(g:fn.body=some c)(e:(fn.name== "runtime.NumGoroutine")=false)(d:bJ)(w:World):stepG P false (born P { target:=.fn (.func F) d,args:=#[] }) w=.go (G ((baseD F).at ⟨d++Array.replicate (fn.ntmps-d.size) undef,[]⟩ [.code c]) [bot P]) w #[]:=by
 have f:¬fn.name= "runtime.NumGoroutine":=by simpa using e
 simp[f,born,stepG,unwind,callDeferred,invoke,callFunc,h,g,e,seen,GStep.after,G,Frame.enter,Frame.at,baseD,bot,program,Sem.run,Sem.runT,aD]
end
section
variable {E:Env} {n:Node} {fa:y1} {ca:hA} {w:World}
def RG{S:Env} (y:SubG S E E)(N:∀g,E.dark g=false)(R:E.sh=true)(A:E.free=true)(O:∀g,E.glob g=false) {t:aG} {i:Nat} {rest:y0} {o:Oper} {k:List Item} {x F:Nat} (L:E.dfr F=true) {fn:Func} {q:Code} {d:bJ} {X:hN} (hm:n.f.mode=.run)(hr:n.f.roundOf=none)(ht:n.f.todo=.inRegion t (i::rest)::k)(Y:t[i]?=some o)(C:o.guard=none)(hd:o.dst=none)(hx:n.f.tmps.getD x undef=.func (.func F) #[] d)(D:∀(ρ:aE)(r:bJ)(w:World),ρ (.tmp x)=.func (.func F) #[] r->(execOp ρ o).run E.P w=.ok (.spawn {target:=.fn (.func F) r,args:=#[]}) w/\(execOp ρ o).events E.P w #[]=#[])(hf:E.P.funcs[F]?=some fn)(J:fn.body=some q)(H:(fn.name== "runtime.NumGoroutine")=false)(Q:aV q=true)(u:∀v∈d,VR S (idX X) v v)(hX:∀b,X b->n.sh b)(z:cK S X n.l)(W:Rel E n.sh n.bs n.B n.f n.cs n.l fa ca w):∃j U Z,stepG E.P true (G fa ca) w=.spawn (G (fa.finish undef) ca) j w #[]/\j.status=.running/\(∀w,stepG E.P false j w=.go (G U Z) w #[])/\Rel E X [bot E.P] (n.B.on X) ((base F).at ⟨d++Array.replicate (fn.ntmps-d.size) undef,[]⟩ [.code q]) [ZJ E.P] n.l U Z w:=by
 have hF:=W.st.head;obtain⟨V,e,aA⟩:=hF.oper hm hr ht;have K:VR E n.B (n.f.tmps.getD x undef) (fa.tmps.getD x undef):=hF.tmps.getD x (undefR (G:=E) (B:=n.B));rw[hx]at K;have hw:Region.wanted o (yielded t fa.tmps)=true:=by unfold Region.wanted;rw[C]
 generalize hv:fa.tmps.getD x undef=v at K;cases K with|func fn1 fn2 xs xs' ys ys' hfn hxs1 hxs2 hys1 hys2=>cases hfn with|func _ hgood=>
   obtain rfl:xs'=#[]:=yV hxs1.symm;have hA:AR E n.B d ys':=⟨hys1,hys2⟩;obtain⟨r1,r2⟩:=D (⟨fa.tmps,fa.defers⟩:Act).eval ys' w hv;have I:=stepG_spawn (P:=E.P) (main:=true) (b:=fa) (a:=⟨fa.tmps,fa.defers⟩) (k:=V) (cs:=ca) (rest:=rest) Y hw hF.noEarly r1 rfl;rw[kA r2]at I;have M:=cL fa ⟨fa.tmps,fa.defers⟩ t i rest V undef;rw[Y]at M;have e7:fa.finish undef=fa.at ((⟨fa.tmps,fa.defers⟩:Act).put o.dst undef) (.inRegion t rest::V):=by rw[e];exact M
   refine⟨_,_,_,?_,rfl,fun w=>RF hf J H ys' w,⟨?_,?_,fun b J=>let ⟨_,_,_,m,_⟩:=z b J;(bO.1 m).1⟩⟩;·rw[e7,<-I,<-e]
   .refine .last _ _ ⟨rfl,?_,.cons _ _ _ _ (.code _ ⟨Q,fun h=>by rw[A]at h;cases h⟩) .nil,.nil,.inl ⟨rfl,rfl⟩,⟨rfl,.inr ⟨L,rfl⟩⟩,.inl ⟨rfl,rfl⟩⟩ rfl;show AR E (n.B.on X) (d++Array.replicate _ undef) (ys'++Array.replicate _ undef);rw[hys1];exact(hA.on y u).append (AR.replicate _ undefR)
   .obtain⟨w1,w2,w3,w4,w5,w6,w7,w8,w9,aB,aC⟩:=W.wr;refine⟨fun b p c' m s=>w1 b p c' m.1 s.1,fun b c p m s=>w2 b c p m.1 s.1,fun b p m=>w3 b p m.1,fun b p m s=>absurd m.2 s,fun b p m s=>?_,fun _ _ x=>x.elim,fun g C=>(by rw[O]at C;cases C),fun b p m=>w8 b p m.1,w9,fun hs=>(by rw[R]at hs;cases hs),fun g C=>(by rw[N]at C;cases C)⟩;have x1:=hX b s;obtain⟨c,T,fz,x3,x4⟩:=z b s;obtain⟨c1,c2,T',f',y1,y2,y3⟩:=w5 b p m.1 x1;rw[x3]at y1;cases y1;exact⟨c,c2,T,f',x3,y2,y3.on y x4⟩
end
section
variable {l:World} {t:aJ} {d:Nat}
def gP(a:Addr):(l.re t d).cell? a=l.cell? a:=rfl
def gQ(a:Addr):(l.re t d).frozen? a=l.frozen? a:=rfl
def gR(b:Nat):(l.re t d).shape? b=l.shape? b:=rfl
def eU:(l.re t d).heap.size=l.heap.size:=rfl
def I1:(l.re t d).heap=l.heap:=rfl
def gT(o:Obj):(l.re t d).alloc o=(l.alloc o).re t d:=rfl
def gU(a:Addr)(v:Value):(l.re t d).setCell a v=(l.setCell a v).re t d:=by unfold World.setCell World.re;rfl
end
section
variable {E:Env} {Stop:aH} {b:y1} {a:Act} {k:List Item} {cs:hA} {l:World} {ops:aG} {i:Nat} {rest:y0} {o:Oper}
def ZT(n:Halts Stop)(y:ops[i]?=some o)(w:Region.wanted o (yielded ops a.tmps)=true)(q:b.kind≠.early)(A:E.op o.op=true)(h:∀t d (K:Result Next->Prop),(∀v W,LG E Stop (b.at (a.put o.dst v) (.inRegion ops rest::k)) cs W->K (.ok (.value v) (W.re t d)))->(∀W,LG E Stop (b.at (a.put o.dst undef) (.inRegion ops rest::k)) cs W->K (.ok .skip (W.re t d)))->K ((execOp a.eval o).run E.P (l.re t d))):LG E Stop (b.at a (.inRegion ops (i::rest)::k)) cs l:=by
 have C:=fun t d=>h t d (fun r=>(∃v W,r=.ok (.value v) W/\LG E Stop (b.at (a.put o.dst v) (.inRegion ops rest::k)) cs W)∨∃W,r=.ok .skip W/\LG E Stop (b.at (a.put o.dst undef) (.inRegion ops rest::k)) cs W) (fun v W x=>.inl ⟨v,_,rfl,x.re n t d⟩) fun W x=>.inr ⟨_,rfl,x.re n t d⟩;have c:∀t d,∃p e s,stepG E.P true (G (b.at a (.inRegion ops (i::rest)::k)) cs) (l.re t d)=.go (G p cs) e s/\LG E Stop p cs e:=by
  intro t d;rcases C t d with⟨v,W,f,j⟩|⟨W,f,j⟩;·exact⟨_,_,_,stepG_value y w q f,j⟩
  .exact⟨_,_,_,stepG_none y w q f,j⟩
 refine .step _ _ _ (fun _ N m=>by rw[y]at m;cases m;exact A) (fun t d=>?_) fun t d p F e s g=>?_;·obtain⟨p,e,s,f,_⟩:=c t d;exact⟨_,_,_,_,f⟩
 .obtain⟨I,L,H,f,j⟩:=c t d;rw[f]at g;simp only[A7,G,bS,bQ]at g;obtain⟨⟨rfl,rfl⟩,rfl,_⟩:=g;exact j
def zT(v:E.sh=true)(s:∀g,E.glob g=false)(r:∀g,E.dark g=false) {X:hN} (y:cK E X l)(p:E.P.globals.size<=l.heap.size):WR E ⟨fun _=>False,fun _=>True⟩ (idX X) l l:=⟨fun b j C f m=>by rw[<-f.1,m.1],fun b c j f m=>by rw[f.1,m.1],fun b j h=>by obtain⟨rfl,h⟩:=h;obtain⟨c,T,x,f,_⟩:=y b h;have:=(bO.1 f).1;exact⟨this,this⟩,fun b j h _=>by obtain⟨rfl,h⟩:=h;obtain⟨c,T,x,f,m⟩:=y b h;exact⟨_,_,f,f,.cells c c T x (Zu m)⟩,fun b j _ h=>h.elim,fun i q _=>rfl,fun g h=>(by rw[s]at h;cases h),fun b j h=>by rw[h.1],⟨p,p⟩,fun A=>(by rw[v]at A;cases A),fun g p=>(by rw[r]at p;cases p)⟩
end
section
variable {E:Env} {Stop:aH} {b:y1} {a:Act} {k:List Item} {cs:hA} {l:World} {ops:aG}
def I2{P:aA} {c:Nat} (w:World):stepG P true (G (b.at a (.code (.region c ops true)::k)) cs) w=.go (G (b.at a (.inRegion ops (Region.schedule (P.follows .mixedOrders) ops (w.tape w.drawn (.order b.fn c)))::k)) cs) {w with drawn:=w.drawn+1} #[]:=by simp[G,stepG,stepG.exec,Frame.at,choose,Sem.run,Question.forced,Question.cut]
def RH(e:Halts Stop) {g:Nat} (h:∀n,LG E Stop (b.at a (.inRegion ops (Region.schedule (E.P.follows .mixedOrders) ops n)::k)) cs l):LG E Stop (b.at a (.code (.region g ops true)::k)) cs l:=by refine .step _ _ _ (fun _=>trivial) (fun t d=>⟨_,_,_,_,I2 _⟩) fun t d m f i j c=>?_;rw[I2]at c;simp only[A7,G,bS,bQ]at c;obtain⟨⟨rfl,rfl⟩,rfl,_⟩:=c;exact(h _).re e t (d+1)
def HP(m:Region.Mode):∀(f t:Nat)(c:bM)(g:y0),Region.linearise.go m ops f t c g=g.reverse++Region.linearise.go m ops f t c []
 |0,t,c,g=>by simp[Region.linearise.go]|f+1,t,c,g=>by
  unfold Region.linearise.go;dsimp only;split;·rename_i i h;rw[HP m f _ _ (i::g),HP m f _ _ [i]];simp
  .simp
def ready(ops:aG)(c:bM):List Nat:=(List.range ops.size).filter fun i=>!c.getD i true&&((ops[i]?).map (·.after.all fun e=>!Region.binds .any e||c.getD e.on false)).getD false
def RI(f t:Nat) (c:bM):Region.linearise.go .any ops (f+1) t c []=match (ready ops c)[t%(ready ops c).length]? with|some i=>Region.linearise.go .any ops f (t / (ready ops c).length) (c.setIfInBounds i true) [i]|none=>[]:=rfl
def go_cases(f t:Nat)(c:bM):Region.linearise.go .any ops (f+1) t c []=[]/\ready ops c=[]∨∃i g,i∈ready ops c/\Region.linearise.go .any ops (f+1) t c []=i::Region.linearise.go .any ops f g (c.setIfInBounds i true) []:=by rw[RI];generalize ready ops c=L;cases h:L[t%L.length]? with
 |none=>refine .inl ⟨rfl,?_⟩;cases L with
  |nil=>rfl|cons x xs=>rw[iL]at h;have:=Nat.mod_lt t (show 0<(x::xs).length by simp);omega
 |some i=>refine .inr ⟨i,t / L.length,k3 h,?_⟩;dsimp only;rw[HP];rfl
abbrev _root_.bR:=Nat->Bool
def RJ{p q:bR} {x:Nat} {L:y0} (c:∀j,q j=true->p j=true)(d:x∈L)(e:p x=true)(h:q x=false):L.countP q<L.countP p:=by induction L with
 |nil=>cases d|cons y L ih=>
  have g:L.countP q<=L.countP p:=List.countP_mono_left fun j _=>c j;rw[uL,uL];rcases ZBq.1 d with rfl|d;·simp[e,h];omega
  .have:=ih d;have:(if q y=true then 1 else 0)<=(if p y=true then 1 else 0):=by
    by_cases f:q y=true;·simp[f,c y f]
    .simp[f]
   omega
def RL(q:E.P.follows .mixedOrders=true)(I:Array Bool->Act->World->Prop)(g:∀c a l i rest,I c a l->i∈ready ops c->(ready ops (c.setIfInBounds i true)=[]->rest=[])->(∀a' l',I (c.setIfInBounds i true) a' l'->LG E Stop (b.at a' (.inRegion ops rest::k)) cs l')->LG E Stop (b.at a (.inRegion ops (i::rest)::k)) cs l)(d:∀c a l,I c a l->ready ops c≠[])(m:∀c a l,I c a l->0<(List.range ops.size).countP fun j=>!c.getD j true)(n:Nat)(o:I (Array.replicate ops.size false) a l):LG E Stop (b.at a (.inRegion ops (Region.schedule (E.P.follows .mixedOrders) ops n)::k)) cs l:=by
 have e:Region.schedule (E.P.follows .mixedOrders) ops n=Region.linearise.go .any ops ops.size n (Array.replicate ops.size false) []:=by rw[q];rfl
 rw[e];have y:∀(f n:Nat)(c:bM)(a:Act)(l:World),((List.range ops.size).countP fun j=>!c.getD j true)<=f->I c a l->LG E Stop (b.at a (.inRegion ops (Region.linearise.go .any ops f n c [])::k)) cs l:=by intro f;induction f with|zero=>intro n c a l L r;have:=m c a l r;omega|succ f ih=>
   intro n c a l L r;rcases go_cases (ops:=ops) f n c with⟨_,s⟩|⟨i,H,A,s⟩;·exact absurd s (d c a l r)
   .rw[s];refine g c a l i _ r A (fun Q=>?_) fun a' l' v=>ih H _ a' l' ?_ v;·cases f with|zero=>rfl|succ f=>
      rcases go_cases (ops:=ops) f H (c.setIfInBounds i true)with⟨p,_⟩|⟨j,T,p,_⟩;·exact p
      .rw[Q]at p;cases p
    .
     have F:i∈List.range ops.size/\c.getD i true=false:=by have:=eC.1 A;refine⟨this.1,?_⟩;have C:=this.2;simp only[aY,U2]at C;exact C.1
     have O:(List.range ops.size).countP (fun j=>!(c.setIfInBounds i true).getD j true)<(List.range ops.size).countP fun j=>!c.getD j true:=by
      refine RJ (x:=i) (fun j N=>?_) F.1 (by simp[F.2]) ?_
      .revert N;rw[fG,fG,bF];split
       .split;·simp
        .rename_i K R;subst K;rw[dQ Qa];simp
       .exact id
      .rw[fG,bF];split;·split<;>simp
       .rename_i h;exact absurd rfl h
     omega
 refine y ops.size n _ a l ?_ o;exact h9 (List.countP_le_length) Qd
end
section
variable {E1 S E2:Env} {B:Blk} {X:hN}
def VR.on'(p:SubG S E1 E2)(C:E2.junk=true) {v A:Value} (h:VR E1 B v A):VR S (idX X) v v->VR E2 (B.on X) v A:=by induction h with
 |bool b=>exact fun _=>.bool b|int k n=>exact fun _=>.int k n|string s=>exact fun _=>.string s|nilPtr=>exact fun _=>.nilPtr|ptr a a' ha=>intro m;cases ha with|mk b b' o s hb=>cases m with|ptr _ _ h2=>cases h2 with|mk _ _ _ _ hx=>exact .ptr _ _ (.mk _ _ _ _ ⟨hb,hx.2⟩)
 |nilSlice l c=>exact fun _=>.nilSlice l c|slice a a' l c ha=>intro m;cases ha with|mk b b' o s hb=>cases m with
   |slice _ _ _ _ h2=>cases h2 with|mk _ _ _ _ hx=>exact .slice _ _ _ _ (.mk _ _ _ _ ⟨hb,hx.2⟩)
   |slice0 _ hz=>rw[p.s]at hz;cases hz
 |slice0 a hz=>rw[p.e]at hz;cases hz|func fn fn' xs xs' ys ys' hf hx hxs hy hys ih1 ih2=>intro m;cases m with|func _ _ _ _ _ _ h1 _ h2 _ h3=>refine .func _ _ _ _ _ _ ?_ hx (fun i u x g j=>ih1 i u x g j (h2 i u u g g)) hy fun i u x g j=>ih2 i u x g j (h3 i u u g g);cases hf with
   |func f hg=>cases h1 with|func _ hg2=>exact .func f (p.good f hg2)
   |yield a b hb=>cases h1 with|yield _ _ hl=>exact .yield _ _ ⟨hb,hl.2⟩
 |nilFunc=>exact fun _=>.nilFunc|iface t v A _ ih=>intro m;cases m with|iface _ _ _ h2=>exact .iface _ _ _ (ih h2)
 |nilIface=>exact fun _=>.nilIface|chan r=>exact fun _=>.chan r|junk v hf hv=>exact fun _=>.junk v C hv|agg xs xs' hx hxs ih=>intro m;cases m with|agg _ _ _ h2=>exact .agg _ _ hx fun i u x g j=>ih i u x g j (h2 i u u g g)
 |tuple xs xs' hx hxs ih=>intro m;generalize y:Value.tuple xs=q at m;cases m with|tuple _ _ _ h2=>cases y;exact .tuple _ _ hx fun i u x g j=>ih i u x g j (h2 i u u g g)|junk _ _ _=>cases y;exact .tuple _ _ hx fun i u x g j=>(by simp at g)|_=>cases y
def AR.on'(c:SubG S E1 E2)(j:E2.junk=true) {b a:bJ} (h:AR E1 B b a)(m:∀v∈b,VR S (idX X) v v):AR E2 (B.on X) b a:=⟨h.size,fun i v p g f=>(h.at_ i v p g f).on' c j (m v (cP g))⟩
def GL(S:Env)(X:hN) {v:Value} (a:bare v=true):∃u,VR S (idX X) u u/\(VR S (idX X) v v->u=v)/\∀(E1 E2:Env)(B:Blk)(c:Value),SubG S E1 E2->E2.junk=true->VR E1 B v c->VR E2 (B.on X) u c:=by
 by_cases g:VR S (idX X) v v;·exact⟨v,g,fun _=>rfl,fun E1 E2 B c j f h=>VR.on' j f h g⟩
 .exact⟨.tuple #[],undefR,fun h=>absurd h g,fun E1 E2 B c j f h=>.junk c f (by rw[<-h.bare];exact a)⟩
def Bt(S:Env)(X:hN):∀(v:Value),∃u,VR S (idX X) u u/\(VR S (idX X) v v->u=v)/\∀(E1 E2:Env)(B:Blk)(f:Value),SubG S E1 E2->E2.junk=true->VR E1 B v f->VR E2 (B.on X) u f
 |.iface t v=>by
  obtain⟨u,j,g,L⟩:=Bt S X v;refine⟨.iface t u,.iface _ _ _ j,fun h=>?_,fun E1 E2 B f r p h=>?_⟩;·cases h with|iface _ _ _ h4=>rw[g h4]
  .cases h with|iface _ _ f h4=>exact .iface _ _ _ (L E1 E2 B f r p h4)
 |.agg xs=>by
  have C:∀i:_root_.Fin xs.size,∃u,VR S (idX X) u u/\(VR S (idX X) xs[i] xs[i]->u=xs[i])/\∀(E1 E2:Env)(B:Blk)(f:Value),SubG S E1 E2->E2.junk=true->VR E1 B xs[i] f->VR E2 (B.on X) u f:=fun i=>Bt S X xs[i];have y:(Array.ofFn fun i=>(C i).choose).size=xs.size:=Qd
  have m:∀(i:Nat)(u:Value),(Array.ofFn fun i=>(C i).choose)[i]?=some u->∃v,xs[i]?=some v/\VR S (idX X) u u/\(VR S (idX X) v v->u=v)/\∀(E1 E2:Env)(B:Blk)(f:Value),SubG S E1 E2->E2.junk=true->VR E1 B v f->VR E2 (B.on X) u f:=by
   intro i u A;rw[zL]at A;split at A;·rename_i I;cases A;exact⟨xs[i],e3 I,(C ⟨i,I⟩).choose_spec⟩
   .cases A
  refine⟨.agg (Array.ofFn fun i=>(C i).choose),.agg _ _ rfl fun i u N j g=>?_,fun h=>?_,fun E1 E2 B f r p h=>?_⟩;·rw[j]at g;cases g;obtain⟨v,x,F,_⟩:=m i u j;exact F
  .cases h with|agg _ _ _ h4=>congr 1;refine xA y fun i j g=>?_;obtain⟨v,x,F,H,_⟩:=m i _ (e3 j);rw[e3 g]at x;cases x;exact H (h4 i _ _ (e3 g) (e3 g))
  .cases h with|agg _ xs' h4 h5=>refine .agg _ _ (y.trans h4) fun i u f j g=>?_;obtain⟨v,x,F,H,K⟩:=m i u j;exact K E1 E2 B f r p (h5 i v f x g)
 |.bool b=>⟨.bool b,.bool b,fun _=>rfl,fun E1 E2 B f r p h=>by cases h;exact .bool b⟩|.int k n=>⟨.int k n,.int k n,fun _=>rfl,fun E1 E2 B f r p h=>by cases h;exact .int k n⟩|.string s=>⟨.string s,.string s,fun _=>rfl,fun E1 E2 B f r p h=>by cases h;exact .string s⟩|.nilIface=>⟨.nilIface,.nilIface,fun _=>rfl,fun E1 E2 B f r p h=>by cases h;exact .nilIface⟩|.float a b=>GL S X rfl|.complex a b c=>GL S X rfl|.pointer a=>GL S X rfl|.slice a b c=>GL S X rfl|.map a=>GL S X rfl|.chan a=>GL S X rfl|.func a b c=>GL S X rfl|.nilFunc=>GL S X rfl|.tuple a=>GL S X rfl termination_by v=>SizeOf.sizeOf v decreasing_by
 .simp_wf;omega
 .have:=zM xs i.1 i.2;simp_wf;have e:SizeOf.sizeOf xs[i]=SizeOf.sizeOf xs[i.1]:=rfl;omega
noncomputable def san(S:Env)(X:hN)(v:Value):Value:=(Bt S X v).choose
def zU(S:Env) (X:hN) (v:Value):VR S (idX X) (san S X v) (san S X v):=(Bt S X v).choose_spec.1
def RM{S:Env} {X:hN} {v:Value} (h:VR S (idX X) v v):san S X v=v:=(Bt S X v).choose_spec.2.1 h
def zV(c:SubG S E1 E2) (g:E2.junk=true) {v f:Value} (h:VR E1 B v f):VR E2 (B.on X) (san S X v) f:=(Bt S X v).choose_spec.2.2 E1 E2 B f c g h
noncomputable def zW(S:Env)(X:hN)(o:Obj):Obj:=match o with|.cells c T _=>.cells (c.map (san S X)) T (0,c.size+1)|o=>o
open Classical in noncomputable def sanW(S:Env)(X Y:Nat->Prop)(l:World):World:={l with heap:=l.heap.mapIdx fun b o=>if Y b then zW S X o else o}
section
variable {S:Env} {X Y:hN} {l:World}
def K1:(sanW S X Y l).heap.size=l.heap.size:=by simp[sanW]
def jH{b:Nat} (h:¬Y b):(sanW S X Y l).heap[b]?=l.heap[b]?:=by simp only[sanW,C9];cases l.heap[b]? with|none=>rfl|some o=>simp[h]
def jI{b:Nat} (h:Y b) {c:bJ} {T:aN} {f:Nat×Nat} (g:l.heap[b]?=some (.cells c T f)):(sanW S X Y l).heap[b]?=some (.cells (c.map (san S X)) T (0,(c.map (san S X)).size+1)):=by simp only[sanW,C9,g];simp[h,zW]
def RN{b:Nat} (c:l.heap[b]?=some (.deferred none)):(sanW S X Y l).heap[b]?=some (.deferred none):=by simp only[sanW,C9,c];simp only[bV];split<;>rfl
def mN{a:Addr} {v:Value} (b:l.cell? a=some v)(j:VR S (idX X) v v):(sanW S X Y l).cell? a=some v:=by
 by_cases h:Y a.block;·cases g:l.heap[a.block]? with
  |none=>simp[World.cell?,g]at b|some o=>cases o with
   |cells c T f=>
    simp only[World.cell?,g]at b;simp only[World.cell?,jI h g];split at b;·cases b
    .rename_i m;rw[q' m,bD,b,bV,RM j]|_=>simp[World.cell?,g]at b
 .have:=b;unfold World.cell? at this |-;rw[jH h];exact this
end
def iW(B:Blk)(l:World)(b:Nat):Prop:=(∃g,B b g)/\∃c T f,l.heap[b]?=some (.cells c T f)
def RO(V:E2.P=E1.P)(H:SubG S E1 E2)(e:E2.junk=true)(N:E2.sh=true)(L:∀g,E2.glob g=false)(K:∀g,E2.dark g=false) {d:hN} {l w:World} (h:WR E1 ⟨d,fun _=>False⟩ B l w):WR E2 ⟨iW B l,fun _=>False⟩ (B.on (iW B l)) (sanW S (iW B l) (iW B l) l) w/\cK S (iW B l) (sanW S (iW B l) (iW B l) l):=by
 refine⟨⟨fun b j r x y=>h.fn _ _ _ x.1 y.1,fun b c j x y=>h.inj _ _ _ x.1 y.1,fun b j x=>⟨by rw[K1];exact(h.dom _ _ x.1).1,(h.dom _ _ x.1).2⟩,fun b j x p=>absurd x.2 p,fun b j x _=>?_,fun _ _ x=>x.elim,fun g F=>(by rw[L]at F;cases F),fun b j x=>by rw[V];exact h.low _ _ x.1,by rw[V,K1];exact h.gsz,fun p=>(by rw[N]at p;cases p),fun g F=>(by rw[K]at F;cases F)⟩,fun b Z=>?_⟩
 .obtain⟨_,c,T,f,C⟩:=id x.2;have R:∃r I,w.heap[j]?=some (.cells r T I)/\AR E1 B c r:=by
   by_cases p:d b;·obtain⟨t,q,n,z,s,A,m⟩:=h.shr b j x.1 p;rw[C]at s;cases s;exact⟨_,_,A,m⟩
   .obtain⟨o,D,s,A,m⟩:=h.obj b j x.1 p;rw[C]at s;cases s;cases m with|cells c r T f m=>exact⟨_,_,A,m⟩
  obtain⟨r,I,A,m⟩:=R;refine⟨_,r,T,I,jI x.2 C,A,⟨by simp[m.size],fun i u k a Q=>?_⟩⟩;rw[bD]at a;obtain⟨v,O,rfl⟩:=e'.1 a;exact zV H e (m.at_ i v k O Q)
 .obtain⟨_,c,T,f,C⟩:=id Z;refine⟨_,T,_,jI Z C,fun v O=>?_⟩;obtain⟨x,_,rfl⟩:=Array.mem_map.1 O;exact zU S _ x
def RQ{E:Env} (F:SubG S E E)(t:E.junk=true)(N:E.sh=true) {Y:hN} {a:hN} {bs:hA} {f e:y1} {cs d:hA} {l w:World} (R:∀b,Y b->∃c T f,l.heap[b]?=some (.cells c T f))(h:Rel E a bs B f cs l e d w):Rel E (fun b=>a b∨Y b) bs B f cs (sanW S (fun b=>X b∨Y b) Y l) e d w:=by
 have L:(B.on fun b=>X b∨Y b).le B:=fun b r x=>x.1;obtain⟨s,⟨J,M,P,k,q,w6,U,W,w9,aB,H⟩,m⟩:=h;refine⟨s,⟨J,M,fun b r j=>by rw[K1];exact P b r j,fun b r j p=>?_,fun b r j p=>?_,fun _ _ x=>x.elim,U,W,by rw[K1];exact w9,fun p=>(by rw[N]at p;cases p),fun g V=>⟨RN (H g V).1,(H g V).2⟩⟩,fun b j=>?_⟩;·rw[jH (fun y=>p (.inr y))];exact k b r j fun D=>p (.inl D)
 .by_cases y:Y b
  .obtain⟨c,T,f,K⟩:=R b y;have Q:∃A I,w.heap[r]?=some (.cells A T I)/\AR E B c A:=by
    by_cases p:a b;·obtain⟨c1,aA,T1,f1,s,C,m⟩:=q b r j p;rw[K]at s;cases s;exact⟨_,_,C,m⟩
    .obtain⟨o,o',s,C,m⟩:=k b r j p;rw[K]at s;cases s;cases m with|cells c A T f m=>exact⟨_,_,C,m⟩
   obtain⟨A,I,C,m⟩:=Q;refine⟨_,A,T,I,jI y K,C,⟨by simp[m.size],fun i u G Z O=>?_⟩⟩;rw[bD]at Z;obtain⟨v,z,rfl⟩:=e'.1 Z;exact(zV F t (m.at_ i v G z O)).mono L
  .rw[jH y];exact q b r j (p.resolve_right y)
 .rw[K1];rcases j with j|j;·exact m b j
  .obtain⟨c,T,f,h⟩:=R b j;exact(bO.1 h).1
def wC{Y:hN} {l:World} (p:cK S X l) (r:∀b,Y b->∃c T f,l.heap[b]?=some (.cells c T f)):cK S (fun b=>X b∨Y b) (sanW S (fun b=>X b∨Y b) Y l):=by
 intro b s;by_cases g:Y b;·obtain⟨c,T,f,j⟩:=r b g;refine⟨_,T,_,jI g j,fun v m=>?_⟩;obtain⟨x,_,rfl⟩:=Array.mem_map.1 m;exact zU S _ x
 .obtain⟨c,T,f,j,m⟩:=p b (s.resolve_right g);exact⟨c,T,f,by rw[jH g];exact j,fun v h=>(m v h).mono fun a b x=>⟨x.1,.inl x.2⟩⟩
def RS(R:E2.P=E1.P)(j:SubG S E1 E2)(N:E2.junk=true)(I:E2.sh=true)(m:E2.free=true)(F:∀g,E2.glob g=false)(C:∀g,E2.dark g=false)(A:∀f,E1.dfr f=false) {sh:hN} {l w:World} {i:hA} {g:FuncId} {a:bJ} {fn:Func} {body:Code} {cs:hA} {d:y1} {t:hA} (K:hA)(u:E1.P.funcs[g]?=some fn)(o:fn.body=some body)(q:aV body=true)(V:∀v∈a,VR S (idX (iW B l)) v v)(h:Rel E1 sh i B (Frame.enter E1.P g a .normal) cs l d t w):cK S (iW B l) (sanW S (iW B l) (iW B l) l)/\Rel E2 (iW B l) K (B.on (iW B l)) (Frame.enter E1.P g a .normal) [ZJ E2.P] (sanW S (iW B l) (iW B l) l) d K w:=by
 obtain⟨Q,L⟩:=RO (S:=S) R j N I F C h.wr;refine⟨L,⟨?_,Q,fun b o=>?_⟩⟩
 .have hF:=h.st.head;refine .last _ _ ⟨hF.fn,?_,?_,?_,hF.mode,⟨hF.kind.1,hF.kind.2.imp id fun x=>(by have:=x.1;rw[A]at this;cases this)⟩,.inl ⟨rfl,?_⟩⟩ rfl
  .refine hF.tmps.on' j N fun v r=>?_;rcases mZ.1 (show v∈a++Array.replicate _ undef from r)with r|r;·exact V v r
   .rw[(Array.mem_replicate.1 r).2];exact undefR
  .have H:=hF.todo;have e:(Frame.enter E1.P g a .normal).todo=[.code body]:=by simp[Frame.enter,u,o]
   rw[e]at H |-;generalize d.todo=x at H |-;cases H with|cons y y' k k' hy hs=>cases hs;cases hy with|code c hc=>exact .cons _ _ _ _ (.code _ ⟨q,fun p=>by rw[m]at p;cases p⟩) .nil|mark=>exact absurd q (by simp[aV])
  .have s:=hF.defers;have e:(Frame.enter E1.P g a .normal).defers=[]:=rfl;rw[e]at s |-;generalize d.defers=x at s |-;cases s;exact .nil
  .rcases hF.round with⟨_,x⟩|⟨_,_,x,_⟩;·exact x
   .cases x
 .obtain⟨c,T,Z,O,_⟩:=L b o;exact(bO.1 O).1
end
structure Kept1 (w w':World):Prop where
 size:w.heap.size<=w'.heap.size
 heap:∀x,x<w.heap.size->w'.heap[x]?=w.heap[x]?
 os:w'.os=w.os
 output:w'.output=w.output
def Kept1.refl(w:World):Kept1 w w:=⟨sW _,fun _ _=>rfl,rfl,rfl⟩
def Kept1.trans{a b c:World} (h:Kept1 a b)(k:Kept1 b c):Kept1 a c:=⟨h9 h.size k.size,fun x f=>(k.heap x (h8 f h.size)).trans (h.heap x f),k.os.trans h.os,k.output.trans h.output⟩
def fE(P:aA)(e:y1)(w:World)(R:fC):Prop:=∀{Post:hS} {c:y1} {ca:hA} {d:hE} {sl:Option (Nat×Nat)} {t:Trace} {q:c6},d[0]?=some (G e (c::ca))->Leavers P t d q->Past (fun _=>False) w.heap.size t->(∀{v:Value} {w':World} {f:hE} {sl':Option (Nat×Nat)} {g:Trace} {h:c6},R v->Kept1 w w'->f[0]?=some (G (c.finish v) ca)->Leavers P g f h->Past (fun _=>False) w'.heap.size g->Fin P Post f w' sl' g)->Fin P Post d w sl t
def pad(l:World)(n:Nat):World:={l with heap:=l.heap++Array.replicate n (.deferred none)}
def fS(l:World)(n:Nat):(pad l n).heap.size=l.heap.size+n:=by simp[pad]
def k5(l:World)(n:Nat) {b:Nat} (h:b<l.heap.size):(pad l n).heap[b]?=l.heap[b]?:=by simp[pad,Array.getElem?_append_left h]
structure OldOk (W:World)(OldB B:Blk)(w:World):Prop where
 kept:Kept1 W w
 old:∀b x,B b x->x<W.heap.size->OldB b x
section
variable (E:Env)(Post:hS)(W l0:World)(OldB:Blk)(sh:hN)(bs':hA)
def zX(f:y1)(cs:hA)(l:World):Prop:=∀{B:Blk} {fa:y1} {ca:hA} {w:World} {a:hE} {sl:Option (Nat×Nat)} {t:Trace} {q:c6},a[0]?=some (G fa ca)->Leavers E.P t a q->Past (fun _=>False) w.heap.size t->Rel E sh bs' B f cs l fa ca w->OldOk W OldB B w->Fin E.P Post a w sl t
structure StopG (f:y1)(cs:hA)(l:World):Prop where
 deep:cs≠[]
 calm:∀c,f.mode≠.panicking c
 keep:∀x,x<l0.heap.size->l.heap[x]?=l0.heap[x]?
 good:zX E Post W OldB sh bs' f cs l
end
section
variable {E:Env} {Post:hS} {W l0:World} {OldB:Blk} {sh:hN} {bs':hA}
def Rel.re'{B:Blk} {f b:y1} {cs a:hA} {l w:World} {t:aJ} {d:Nat} (h:Rel E sh bs' B f cs (l.re t d) b a w):Rel E sh bs' B f cs l b a w:=⟨h.st,h.wr.retape rfl rfl rfl fun _ _ x=>x.elim,h.low⟩
def gV:Halts (StopG E Post W l0 OldB sh bs'):=⟨fun f cs l h=>⟨h.deep,h.calm⟩,fun f cs l t d h=>⟨h.deep,h.calm,h.keep,fun c g m p j=>h.good c g m p.re' j⟩⟩
def kB(J:E.Fine)(v:∀b x,OldB b x->sh b∨(b=x/\x<l0.heap.size/\l0.heap[x]?=W.heap[x]?/\E.sh=false/\E.junk=false)) {f:y1} {cs:hA} {l:World} (M:LG E (StopG E Post W l0 OldB sh bs') f cs l):zX E Post W OldB sh bs' f cs l:=by
 intro B fa Y w gs sl t q d F S U c;refine QG J gV M d F S U ?_;intro L f₁ O l₁ Q N w₁ Z X t₁ q₁ y C _ s H j p;have m:∀b x,L b x->x<W.heap.size->OldB b x:=by
  intro b x r A;rcases p.al b x r with h|⟨_,h,_⟩;·exact c.old b x h A
  .have:=c.kept.size;omega
 refine y.good C s H j ⟨⟨h9 c.kept.size p.size.1,fun x A=>?_,p.same.1.trans c.kept.os,p.same.2.trans c.kept.output⟩,m⟩;by_cases g:∀b,B b x->sh b;·rw[p.keep x (h8 A c.kept.size) g];exact c.kept.heap x A
 .obtain⟨b,r⟩:=qG.1 g;obtain⟨r,K⟩:=Classical.not_imp.1 r;obtain⟨rfl,i,n,z,D⟩:=(v b x (c.old b x r A)).resolve_left K;have I:=p.le _ _ r;obtain⟨o,o',R,T,V⟩:=j.wr.obj _ _ I K;have e:=V.eq D (j.wr.sh z).2.2;subst e;rw[T,<-R,y.keep _ i,n]
def zY{S:Side} {B:Blk} {l w e:World} {n:Nat} (d:Kept1 w e)(r:E.sh=false->l.heap.size+n=e.heap.size)(o:∀i,¬S.till i)(h:WR E S B l w):WR E S B (pad l n) e:=by
 refine⟨h.fn,h.inj,fun b c f=>⟨by rw[fS];have:=(h.dom b c f).1;omega,h8 (h.dom b c f).2 d.size⟩,fun b c f j=>?_,fun b c f j=>?_,fun i q p=>absurd p (o _),h.glob,h.low,⟨by rw[fS];have:=h.gsz.1;omega,h9 h.gsz.2 d.size⟩,fun j=>⟨(h.sh j).1,by rw[fS];exact r j,(h.sh j).2.2⟩,fun g m=>⟨?_,(h.dark g m).2⟩⟩;·rw[k5 l n (h.dom b c f).1,d.heap c (h.dom b c f).2];exact h.obj b c f j
 .rw[k5 l n (h.dom b c f).1,d.heap c (h.dom b c f).2];exact h.shr b c f j
 .have:=(h.dark g m).1;rw[k5 l n (bO.1 this).1];exact this
def zZ(Z:E.Fine)(s:∀b x,OldB b x->sh b∨(b=x/\x<l0.heap.size/\l0.heap[x]?=W.heap[x]?/\E.sh=false/\E.junk=false)) {f c:y1} {cs:hA} {l:World} {R:fC} (N:cs≠[])(m:∀c,f.mode≠.panicking c)(p:∀x,x<l0.heap.size->l.heap[x]?=l0.heap[x]?)(O:∀{B:Blk} {fa:y1} {ca:hA} {w:World},Rel E sh bs' B f (c::cs) l fa ca w->OldOk W OldB B w->fE E.P fa w R)(d:∀v,R v->bG 8 v=true)(k:∀v n,R v->LG E (StopG E Post W l0 OldB sh bs') (c.finish v) cs (pad l n)):StopG E Post W l0 OldB sh bs' f (c::cs) l:=by
 refine⟨Qd,m,p,?_⟩;intro B fa ca w z G t q V I a g K;obtain⟨r,j,rfl,y⟩:∃r j,ca=r::j/\ST E B [ZJ E.P] bs' (c::cs) (r::j):=by have:=g.st;cases this with
  |last _ _ _ _=>exact absurd rfl N|cons _ _ _ ca hf A C=>cases ca with
   |nil=>cases C|cons r j=>exact⟨r,j,rfl,C⟩
 refine O g K V I a fun {v o T u J D} Q A F H L=>?_;refine kB Z s (k v (o.heap.size-w.heap.size) Q) F H L ⟨y.top (y.head.finish (VR.closed 8 v (d v Q))) (Blk.le_refl _) (gF _ _),zY A (fun C=>?_) (fun i h=>h) g.wr,fun b e=>?_⟩ ⟨K.kept.trans A,K.old⟩;·have:=(g.wr.sh C).2.1;have:=A.size;omega
 .rw[fS];have:=g.low b e;omega
def RU{P:aA} {Post:hS} {b:y1} {w:World} (h:∀{a:hE} {sl:Option (Nat×Nat)} {t:Trace} {q:c6},a[0]?=some (G b [])->Leavers P t a q->Past (fun _=>False) w.heap.size t->Fin P Post a w sl t):Fin P Post #[G b []] w none #[]:=h rfl (leavers_one P _) (past_nil.mono (k2 _))
end
variable {E0:Env}
structure Self (E:Env)(sh:hN)(B:Blk)(l:World):Prop where
 wr:WR E ⟨sh,fun _=>True⟩ B l l
 low:∀b,sh b->b<l.heap.size
 idn:∀b b',B b b'->b=b'
section
variable {E:Env} {sh:hN} {B:Blk} {l:World}
def Self.re(h:Self E sh B l)(t:aJ)(d:Nat):Self E sh B (l.re t d):=⟨h.wr.retape rfl rfl rfl fun _ _ _=>rfl,h.low,h.idn⟩
def Self.unre{t:aJ} {d:Nat} (h:Self E sh B (l.re t d)):Self E sh B l:=⟨h.wr.retape rfl rfl rfl fun _ _ _=>rfl,h.low,h.idn⟩
def Self.pad(h:Self E sh B l)(n:Nat):Self E sh B (pad l n):=by
 obtain⟨⟨y,d,r,A,C,I,F,H,K,m,p⟩,v,x⟩:=h;refine⟨⟨y,d,fun b f c=>?_,fun b f c j=>?_,fun b f c j=>?_,fun _ _ _=>rfl,F,H,?_,fun j=>⟨(m j).1,rfl,(m j).2.2⟩,fun g s=>⟨?_,(p g s).2⟩⟩,fun b c=>?_,x⟩;·rw[fS];have:=r b f c;omega
 .rw[k5 l n (r b f c).1,k5 l n (r b f c).2];exact A b f c j
 .rw[k5 l n (r b f c).1,k5 l n (r b f c).2];exact C b f c j
 .rw[fS];omega
 .have:=(p g s).1;rw[k5 l n (bO.1 this).1];exact this
 .rw[fS];have:=v b c;omega
def AA{a:Act} (h:Self E sh B l)(b:AR E B a.tmps a.tmps):Ops E B a.eval a.eval:=by intro x c;cases x with|tmp t=>exact b.getD t undefR|const v=>exact VR.closed 8 v c|global g=>exact .ptr _ _ (.mk _ _ _ _ (h.wr.glob g c))|func f=>exact Zl (.func f c) AR.empty AR.empty
def AB(a:Self E sh B l) {α:Type} {Q:Blk->α->α->Prop} {s:Sem α} (h:SR E Q B s s) {t:aJ} {d:Nat} {r:α} {w:World} (v:s.run E.P (l.re t d)=.ok r w):∃f,B.le f/\Self E sh f w/\Q f r r:=by
 have c:=h.both (a.re t d).wr a.low fun _ _ _=>trivial;rw[v]at c;obtain⟨f,b,e,y,m,A,g,p⟩:=c;cases m;refine⟨f,g.le,⟨g.wr.retape rfl rfl rfl fun _ _ _=>rfl,fun b c=>h8 (a.low b c) g.size.2.1,fun b j c=>?_⟩,p⟩;rcases g.al b j c with x|⟨C,F,H⟩;·exact a.idn _ _ x
 .omega
def RV(j:E.Fine)(e:Self E sh B l) {a:Act} (b:AR E B a.tmps a.tmps) {o:Oper} (m:E.op o.op=true) {t:aJ} {d:Nat} {v:Value} {w:World} (p:(execOp a.eval o).run E.P (l.re t d)=.ok (.value v) w):∃c,B.le c/\Self E sh c w/\VR E c v v/\AR E c (a.put o.dst v).tmps (a.put o.dst v).tmps:=by obtain⟨c,f,g,h⟩:=AB e (p9 j (AA e b) (fun _ _=>rfl) m) p;cases h with|value v v' hv=>refine⟨c,f,g,hv,?_⟩;cases o.dst with|none=>exact b.mono f|some x=>exact(b.mono f).set x hv
def RX(h:E.Fine)(e:Self E sh B l) {a:Act} (b:AR E B a.tmps a.tmps) {o:Oper} (j:E.op o.op=true) {t:aJ} {d:Nat} {w:World} (m:(execOp a.eval o).run E.P (l.re t d)=.ok .skip w):∃c,B.le c/\Self E sh c w/\AR E c (a.put o.dst undef).tmps (a.put o.dst undef).tmps:=by obtain⟨c,f,g,p⟩:=AB e (p9 h (AA e b) (fun _ _=>rfl) j) m;refine⟨c,f,g,?_⟩;cases o.dst with|none=>exact b.mono f|some x=>exact(b.mono f).set x undefR
end
def Env.run(E0:Env)(tab:Code):Env:=E0.wide E0.good false tab
def AD{E:Env} (h:Sub E0 E)(a:Code):Sub (E0.run a) E:=⟨h.P,h.glob,h.sh,h.nn,h.dark,fun x=>(by cases x),h.good,h.z0⟩
def jJ(c:E0.junk=false)(tab:Code):Sub E0 (E0.run tab):=⟨rfl,rfl,rfl,rfl,rfl,fun h=>(by rw[c]at h;cases h),fun _ h=>h,fun h=>h⟩
def uM(a:Code):Sub (E0.run a) E0:=⟨rfl,rfl,rfl,rfl,rfl,fun h=>(by cases h),fun _ h=>h,fun h=>h⟩
section
variable {E0 E:Env} {sh:hN} {B:Blk} {l:World} {Stop:aH} {b:y1} {a:Act} {k:List Item} {cs:hA} {ops:aG} {i:Nat} {rest:y0} {o:Oper}
def F8(q:Halts Stop)(f:Sub E0 E)(A:E0.Fine)(n:Self E0 sh B l)(e:AR E0 B a.tmps a.tmps)(F:ops[i]?=some o)(G:Region.wanted o (yielded ops a.tmps)=true)(z:b.kind≠.early)(g:E0.op o.op=true)(h:∀t d (K:Result Next->Prop),(∀v W,(∀c,B.le c->Self E0 sh c W->AR E0 c (a.put o.dst v).tmps (a.put o.dst v).tmps->LG E Stop (b.at (a.put o.dst v) (.inRegion ops rest::k)) cs W)->K (.ok (.value v) (W.re t d)))->(∀W,(∀c,B.le c->Self E0 sh c W->AR E0 c (a.put o.dst undef).tmps (a.put o.dst undef).tmps->LG E Stop (b.at (a.put o.dst undef) (.inRegion ops rest::k)) cs W)->K (.ok .skip (W.re t d)))->K ((execOp a.eval o).run E0.P (l.re t d))):LG E Stop (b.at a (.inRegion ops (i::rest)::k)) cs l:=by
 refine ZT q F G z (f.op _ g) fun t d K H I=>?_;have x:=h t d (fun r=>(execOp a.eval o).run E0.P (l.re t d)=r->K r) (fun v W p s=>?_) (fun W p s=>?_) rfl;·rw[f.P];exact x
 .obtain⟨c,j,m,y,C⟩:=RV A n e g s;exact H v W (p c j m.unre C)
 .obtain⟨c,j,m,y⟩:=RX A n e g s;exact I W (p c j m.unre y)
def AE(hG:E0.Fine)(hF:Strict E0)(S:∀tab,(E0.run tab).Fine)(N:Sub E0 E) {tab:Code} {f z c:y1} {bs:hA} {R:hS} (u:Self E0 sh B l)(e:FR E0 B f f)(H:f.roundOf=none)(X:FR (E0.run tab) B f z)(hR:∀v w t d,R v w->R v (w.re t d))(hc:∀t d,∃n V q v,runN E0.P n (lone f [ZJ E0.P] (l.re t d))=.next (lone V [ZJ E0.P] q)/\V.leaving E0.P q (.returned v)/\R v q)(k:∀v l' F,R v l'->B.le F->Self E0 sh F l'->VR E0 F v v->LG E Stop (c.finish v) bs l'):LG E Stop z (c::bs) l:=by
 have hO:Own E0 sh [ZJ E0.P] f [ZJ E0.P] l B:=⟨.last _ _ e H,u.wr,u.low,u.idn⟩;have hL:LG E0 (Ret E0.P R) f [ZJ E0.P] l:=j9 (s:=⟨f,[ZJ E0.P],l⟩) hG hF (Ax E0.P R) ⟨⟨B,hO⟩,fun t d=>by obtain⟨n,V,q,v,C,y,Z⟩:=hc t d;exact⟨n,V,_,q,C,rfl,v,q.tape,q.drawn,y,Z⟩⟩;have U:=hL.sub (jJ hF.junk tab);have W:Own2 (E0.run tab) sh (c::bs) f [ZJ E0.P] l z (c::bs) B:=⟨.last _ _ X H,(jJ hF.junk tab).wr u.wr,u.low,u.idn⟩;have Q:LG (E0.run tab) (fun f cs l=>LG E Stop f cs l) z (c::bs) l:=by refine qI (bs':=c::bs) (S tab) rfl (Ax E0.P R) U W ?_;rintro B₁ J aJ O p aH ⟨rfl,v,t,d,hl,hr⟩ aF m;have r:=m.st;cases r with
  |cons f f' cs cs' e _ hs=>cases hs with|cons _ _ _ _ _ _ h=>cases h
  |last _ _ e hrd=>
   obtain⟨hm,hd,hk,fn,Y,L⟩:=hl;have D:J.tmps=p.tmps:=e.tmps.eq (show (E0.run tab).junk=false from rfl) m.idn;have M:=e.tmps;rw[<-D]at M;have A:=SR.retape (E:=E0.run tab) rfl (C4 fn M) m.wr m.low m.idn (t:=t) (d:=d) (v:=v) L;have K:∀j g,p.leaving E0.P (O.re j g) (.returned v):=by
    intro j g;refine⟨?_,?_,(by
     rcases e.kind.2 with h|⟨h,_⟩;·exact h
     .have y:E0.dfr J.fn=true:=h;rw[hF.dfr]at y;cases y),fn,e.fn▸Y,?_⟩
    .rcases e.mode with⟨C,y⟩|⟨C,y⟩;·rw[hm]at C;cases C
     .exact y
    .have:=e.defers;rw[hd]at this;generalize p.defers=x at this |-;cases this;rfl
    .have h:=(A j g).1;rw[<-D];exact h
   have I:∀j g,∃T,stepG E0.P true (G p (c::bs)) (O.re j g)=.go (G (c.finish v) bs) (O.re j g) T:=fun j g=>zN (K j g);refine .step _ _ _ (fun aG=>?_) (fun j g=>?_) fun j g g1 aI l1 aK r=>?_;·exfalso;have:=(K t d).1;rw[aG]at this;cases this
   .obtain⟨T,h⟩:=I j g;exact⟨_,_,_,_,h⟩
   .obtain⟨T,h⟩:=I j g;have h':stepG (E0.run tab).P true (G p (c::bs)) (O.re j g)=.go (G (c.finish v) bs) (O.re j g) T:=h;rw[h']at r;simp only[A7,G,bS,bQ]at r;obtain⟨⟨rfl,rfl⟩,rfl,_⟩:=r;obtain⟨F,C,y,Z,h4⟩:=(A j g).2;refine .stop _ _ _ (k v _ F ?_ (Blk.le_trans aF C) ⟨(uM tab).wr (Z.retape rfl rfl rfl fun _ _ _=>rfl),m.low,y⟩ ((uM tab).vr h4));have:=hR _ _ j g hr;exact this
 exact(Q.sub (AD N tab)).trans fun f cs l h=>h
def Bz{f:Env} {F:Nat} (d:AR f B a.tmps a.tmps) (h:a.defers=[]) {g c:List Item} (j:KR f B g c):FR f B ((base F).at a g) ((base F).at a c):=⟨rfl,d,j,(by show DR B a.defers a.defers;rw[h];exact .nil),.inl ⟨rfl,rfl⟩,⟨rfl,.inl rfl⟩,.inl ⟨rfl,rfl⟩⟩
def AF(m:E0.Fine)(hF:Strict E0)(f:∀tab,(E0.run tab).Fine)(h:Sub E0 E) {g:FuncId} {args:bJ} {R:hS} (p:E0.good g=true)(z:Self E0 sh B l)(ha:AR E0 B args args)(q:∀v w t d,R v w->R v (w.re t d))(s:∀t d,Calls E0.P g args (l.re t d) fun e w=>∃v,e=.returned v/\R v w) {c:y1} {bs:hA} (k:∀v l' j,R v l'->B.le j->Self E0 sh j l'->VR E0 j v v->LG E Stop (c.finish v) bs l'):LG E Stop (Frame.enter E0.P g args .normal) (c::bs) l:=by have C:Sub E0 (E0.run (.refuse "#")):=jJ hF.junk _;refine AE (tab:=.refuse "#") (R:=R) m hF f h z (ZF m p ha) rfl (ZF (f _) p (C.ar ha)) q (fun t d=>?_) k;obtain⟨e,D,r,⟨v,rfl,A⟩,⟨n,y⟩,_,x⟩:=s t d [ZJ E0.P];exact⟨n,r,D,v,y,x,A⟩
def AG(F:Halts Stop)(C:E0.Fine)(hF:Strict E0)(m:∀tab,(E0.run tab).Fine)(c:Sub E0 E) {g:FuncId} {args:bJ} {R:hS} (q:Self E0 sh B l)(h:AR E0 B a.tmps a.tmps)(r:ops[i]?=some o)(D:Region.wanted o (yielded ops a.tmps)=true)(z:b.kind≠.early)(p:E0.op o.op=true)(K:∀w,(execOp a.eval o).run E0.P w=.ok (.enter g args) w)(I:E0.good g=true)(u:AR E0 B args args)(n:∀v w t d,R v w->R v (w.re t d))(H:∀t d,Calls E0.P g args (l.re t d) fun e w=>∃v,e=.returned v/\R v w)(L:∀v l' f,R v l'->B.le f->Self E0 sh f l'->AR E0 f (a.put o.dst v).tmps (a.put o.dst v).tmps->LG E Stop (b.at (a.put o.dst v) (.inRegion ops rest::k)) cs l'):LG E Stop (b.at a (.inRegion ops (i::rest)::k)) cs l:=by refine fV F r D z (c.op _ p) (fun w=>by rw[c.P];exact K w) ?_;rw[c.P];refine AF C hF m c I q u n H fun v l' f s j y A=>?_;rw[cL,r];refine L v l' f s j y ?_;show AR E0 f (a.put o.dst v).tmps (a.put o.dst v).tmps;cases o.dst with|none=>exact h.mono j|some x=>exact(h.mono j).set x A
def AH(K:E0.Fine)(hF:Strict E0)(s:∀tab,(E0.run tab).Fine)(m:Sub E0 E) {F:Nat} {fn:Func} {x:Code} {R:hS} (G:Self E0 sh B l)(u:AR E0 B a.tmps a.tmps)(A:a.defers=[])(z:E0.code x=true)(j:E0.P.funcs[F]?=some fn)(D:∀v w t d,R v w->R v (w.re t d))(L:∀t d,x.wp E0.P (fun e r q=>(e=.ret∨e=.normal)/\r.defers=[]/\∃v,(results fn r.tmps).run E0.P q=.ok v q/\R v q) a (l.re t d)) {c:y1} {bs:hA} (k:∀v l' p,R v l'->B.le p->Self E0 sh p l'->VR E0 p v v->LG E Stop (c.finish v) bs l'):LG E Stop ((base F).at a [.code x]) (c::bs) l:=by
 have O:Sub E0 (E0.run (.refuse "#")):=jJ hF.junk _;refine AE (tab:=.refuse "#") (R:=R) K hF s m G (Bz u A (.cons _ _ _ _ (.code _ (E0.ok_of z)) .nil)) rfl (Bz (O.ar u) A (.cons _ _ _ _ (.code _ ⟨jA x z,fun h=>(by cases h)⟩) .nil)) D (fun t d=>?_) k;obtain⟨e,r,q,⟨N,g,v,H,C⟩,f⟩:=L t d (base F) [] [ZJ E0.P];rcases N with rfl|rfl;·obtain⟨I,n,y⟩:=f;exact⟨n,_,q,v,y,⟨rfl,g,rfl,fn,j,H⟩,C⟩
 .obtain⟨n,y⟩:=Steps.trans f (.one step_end);exact⟨n,_,q,v,y,⟨rfl,g,rfl,fn,j,H⟩,C⟩
abbrev _root_.eD:=Act->World->Prop
def I3(P:aA)(F:Nat)(R:eD)(f:y1)(cs:hA)(l:World):Prop:=cs=[ZJ P]/\∃a t d,f=(base F).at a [.code (.refuse "#")]/\a.defers=[]/\R a (l.re t d)
def N6(hG:E0.Fine)(hF:Strict E0)(T:∀tab,(E0.run tab).Fine)(C:Sub E0 E) {F:Nat} {x q:Code} {R:eD} (z:Self E0 sh B l)(Y:AR E0 B a.tmps a.tmps)(hd:a.defers=[])(hx:E0.code x=true)(hR:∀v w t d,R v w->R v (w.re t d))(A:∀t d,x.wp E0.P (fun e a' G=>e=.normal/\a'.defers=[]/\R a' G) a (l.re t d))(k':∀a' l' L,R a' l'->a'.defers=[]->B.le L->Self E0 sh L l'->AR E0 L a'.tmps a'.tmps->LG E Stop ((base F).at a' [.code q]) cs l'):LG E Stop ((base F).at a [.code x,.code q]) cs l:=by
 have M:Sub E0 (E0.run q):=jJ hF.junk _;have aB:KR E0 B [.code (.refuse "#")] [.code (.refuse "#")]:=by have h:=KR.cons (E:=E0) (B:=B) _ _ _ _ .mark .nil;rw[hF.tab]at h;exact h
 have hO:Own E0 sh [ZJ E0.P] ((base F).at a [.code x,.code (.refuse "#")]) [ZJ E0.P] l B:=⟨.last _ _ (Bz Y hd (.cons _ _ _ _ (.code _ (E0.ok_of hx)) aB)) rfl,z.wr,z.low,z.idn⟩;have X:Halts (I3 E0.P F R):=⟨fun f cs l h=>by obtain⟨rfl,a,t,d,rfl,_⟩:=h;exact⟨Qd,fun c A=>by cases A⟩,fun f cs l t d h=>by obtain⟨h0,a,t',d',N,p,O⟩:=h;exact⟨h0,a,t',d',N,p,O⟩⟩;have hL:LG E0 (I3 E0.P F R) ((base F).at a [.code x,.code (.refuse "#")]) [ZJ E0.P] l:=j9 (s:=⟨_,[ZJ E0.P],l⟩) hG hF X ⟨⟨B,hO⟩,fun t d=>by obtain⟨e,a',G,⟨rfl,j,J⟩,n,hn⟩:=A t d (base F) [.code (.refuse "#")] [ZJ E0.P];exact⟨n,_,_,G,hn,rfl,a',G.tape,G.drawn,rfl,j,J⟩⟩;have V:=hL.sub M;have Z:Own2 (E0.run q) sh cs ((base F).at a [.code x,.code (.refuse "#")]) [ZJ E0.P] l ((base F).at a [.code x,.code q]) cs B:=⟨.last _ _ (Bz (M.ar Y) hd (.cons _ _ _ _ (.code _ ⟨jA x hx,fun h=>(by cases h)⟩) (.cons _ _ _ _ .mark .nil))) rfl,M.wr z.wr,z.low,z.idn⟩;have H:LG (E0.run q) (fun f cs l=>LG E Stop f cs l) ((base F).at a [.code x,.code q]) cs l:=by refine qI (bs':=cs) (T q) rfl X V Z ?_;rintro I f₁ aF K m aE ⟨rfl,a',t,d,rfl,j,J⟩ aA g;have aD:=g.st;cases aD with
  |cons f f' cs cs' hf _ hs=>cases hs with|cons _ _ _ _ _ _ h=>cases h
  |last _ _ hf hrd=>
   have W:a'.tmps=m.tmps:=hf.tmps.eq (show (E0.run q).junk=false from rfl) g.idn;have hA:AR (E0.run q) I a'.tmps a'.tmps:=by have:=hf.tmps;rw[<-W]at this;exact this
   have e:m=(base F).at a' [.code q]:=by
    obtain⟨N,p,O,h4,h5,h6,h7⟩:=hf;obtain⟨fn,tm,td,U,md,kd,rd⟩:=m;have e1:fn=F:=N.symm;have e2:tm=a'.tmps:=W.symm;have e3:td=[.code q]:=by have Q:KR (E0.run q) I [.code (.refuse "#")] td:=O;cases Q with|cons y y' k k' hy hs=>cases hs;cases hy with
      |code c A=>exact absurd A.1 (by simp[aV])|mark=>rfl
    have e4:U=a'.defers:=by have r:DR I a'.defers U:=h4;rw[j]at r |-;cases r;rfl
    have e5:md=.run:=by
     rcases h5 with⟨_,x⟩|⟨x,_⟩;·exact x
     .cases x
    have e6:kd=.normal:=by
     rcases h6.2 with x|⟨x,_⟩;·exact x
     .have p:E0.dfr F=true:=x;rw[hF.dfr]at p;cases p
    have e7:rd=none:=by
     rcases h7 with⟨_,x⟩|⟨_,_,x,_⟩;·exact x
     .cases x
    subst e1 e2 e3 e4 e5 e6 e7;rfl
   rw[e];have aC:R a' K:=by have:=hR _ _ K.tape K.drawn J;exact this
   exact .stop _ _ _ (k' a' K I aC j aA ⟨(uM q).wr g.wr,g.low,g.idn⟩ ((uM q).ar hA))
 exact(H.sub (AD C q)).trans fun f cs l h=>h
def qK(H:E0.Fine)(hF:Strict E0)(m:Sub E0 E) {F:Nat} {fn:Func} {x:Code} {R:hS} (z:Self E0 sh B l)(ha:AR E0 B a.tmps a.tmps)(O:a.defers=[])(G:E0.code x=true)(c:E0.P.funcs[F]?=some fn)(N:∀t d,x.wp E0.P (fun e p q=>(e=.ret∨e=.normal)/\p.defers=[]/\∃v,(results fn p.tmps).run E0.P q=.ok v q/\R v q) a (l.re t d))(k:∀f l',Ret E0.P R f [ZJ E0.P] l'->f.fn=F->LG E Stop f [ZJ E0.P] l'):LG E Stop ((base F).at a [.code x]) [ZJ E0.P] l:=by
 have L:Own E0 sh [ZJ E0.P] ((base F).at a [.code x]) [ZJ E0.P] l B:=⟨.last _ _ (Bz ha O (.cons _ _ _ _ (.code _ (E0.ok_of G)) .nil)) rfl,z.wr,z.low,z.idn⟩;have I:Halts (fun f cs l=>Ret E0.P R f cs l/\f.fn=F):=⟨fun f cs l h=>(Ax E0.P R).call f cs l h.1,fun f cs l t d h=>⟨(Ax E0.P R).tape f cs l t d h.1,h.2⟩⟩;have K:LG E0 (fun f cs l=>Ret E0.P R f cs l/\f.fn=F) ((base F).at a [.code x]) [ZJ E0.P] l:=j9 (s:=⟨_,[ZJ E0.P],l⟩) H hF I ⟨⟨B,L⟩,fun t d=>by
  obtain⟨e,p,q,⟨Q,j,v,A,y⟩,g⟩:=N t d (base F) [] [ZJ E0.P];rcases Q with rfl|rfl;·obtain⟨C,n,r⟩:=g;exact⟨n,_,_,q,r,⟨rfl,v,q.tape,q.drawn,⟨rfl,j,rfl,fn,c,A⟩,y⟩,rfl⟩
  .obtain⟨n,r⟩:=Steps.trans g (.one step_end);exact⟨n,_,_,q,r,⟨rfl,v,q.tape,q.drawn,⟨rfl,j,rfl,fn,c,A⟩,y⟩,rfl⟩⟩;refine(K.sub m).trans ?_;rintro f cs l ⟨⟨rfl,h⟩,c⟩;exact k f l ⟨rfl,h⟩ c
end
section
variable {G:Env} {B:Blk}
def I4:∀(n:Nat)(c:ByteArray) {a a':Addr} {B:Blk},AddrR B a a'->SR G QE B (Extern.Bytes.loadBytes a n c) (Extern.Bytes.loadBytes a' n c)
 |0,c,a,a',B,h=>Zy rfl|n+1,c,a,a',B,h=>by
  unfold Extern.Bytes.loadBytes;refine Za (B8 h) fun j v p f g=>?_;cases g<;>try exact SR.halt _ (.stuck _) _ trivial
  rename_i k m;cases k<;>first|exact SR.halt _ (.stuck _) _ trivial|exact I4 n _ ((h.mono f).add 1)
def oK{v c:Value} (h:VR G B v c):SR G QE B (Extern.Bytes.bytesOf v) (Extern.Bytes.bytesOf c):=by unfold Extern.Bytes.bytesOf;cases h<;>first|exact SR.halt _ (.stuck _) _ trivial|exact Zy rfl|exact I4 _ _ ‹_›
def AI{v c:Value} (h:VR G B v c):SR G QE B (Extern.Bytes.asByte v) (Extern.Bytes.asByte c):=by
 unfold Extern.Bytes.asByte;cases h<;>try exact SR.halt _ (.stuck _) _ trivial
 rename_i k m;cases k<;>first|exact SR.halt _ (.stuck _) _ trivial|exact Zy rfl
def two_of {e d : Array Value} (h : AR G B e d) : (∃ a b c f, e = #[a, b] /\ d = #[c, f] /\ VR G B a c /\ VR G B b f) ∨ (e.size ≠ 2 /\ d.size ≠ 2) := by
  by_cases g : e.size = 2
  . left
    have j : d.size = 2 := h.size ▸ g
    obtain ⟨l⟩ := e
    obtain ⟨i⟩ := d
    match l, i, g, j with
    | [a, b], [c, f], _, _ => exact ⟨a, b, c, f, rfl, rfl, h.at_ 0 _ _ rfl rfl, h.at_ 1 _ _ rfl rfl⟩
  . exact .inr ⟨g, h.size ▸ g⟩
def RY{i d:bJ} (h:AR G B i d):SR G (QV G) B (Extern.BytealgCount.count i) (Extern.BytealgCount.count d):=by
 rcases two_of h with⟨a,b,x,y,rfl,rfl,j,m⟩|⟨f,g⟩
 .unfold Extern.BytealgCount.count;refine ZL (oK j) fun r s f=>?_;refine ZL (AI (m.mono f)) fun v c g=>?_;exact Zy (fQ _)
 .have e:∀ys:Array Value,ys.size≠2->Extern.BytealgCount.count ys=stuck "bytealg.Count: two arguments expected":=by intro ys p;obtain⟨l⟩:=ys;match l,p with
   |[],_=>rfl|[_],_=>rfl|[_,_],h=>exact absurd rfl h|_::_::_::_,_=>rfl
  rw[e _ f,e _ g];exact SR.halt _ (.stuck _) _ trivial
def RZ{i d:bJ} (h:AR G B i d):SR G (QV G) B (Extern.BytealgIndexByte.indexByte i) (Extern.BytealgIndexByte.indexByte d):=by
 rcases two_of h with⟨a,b,x,y,rfl,rfl,j,m⟩|⟨f,g⟩
 .unfold Extern.BytealgIndexByte.indexByte;refine ZL (oK j) fun r s f=>?_;refine ZL (AI (m.mono f)) fun v c g=>?_;split<;>exact Zy (fQ _)
 .have e:∀ys:Array Value,ys.size≠2->Extern.BytealgIndexByte.indexByte ys=stuck "bytealg.IndexByte: two arguments expected":=by intro ys p;obtain⟨l⟩:=ys;match l,p with
   |[],_=>rfl|[_],_=>rfl|[_,_],h=>exact absurd rfl h|_::_::_::_,_=>rfl
  rw[e _ f,e _ g];exact SR.halt _ (.stuck _) _ trivial
def SA(s:∀g,G.P.globals.findIdx? (·.name== "internal/bytealg.MaxLen")=some g->G.glob g=true):SR G QE B Extern.BytealgIndex.maxLen Extern.BytealgIndex.maxLen:=by
 unfold Extern.BytealgIndex.maxLen globalAddr;refine .bij _ _ _ fun m=>?_;refine Za (Q:=fun B a f=>AddrR B a f) (Za bI fun j p F h x=>?_) fun j a f h r=>Za (B8 r) fun A v H C y=>X9 y;obtain⟨rfl,rfl⟩:=x;split;·rename_i g c;exact Zy (.mk _ _ _ _ (h _ _ (m.glob g (s g c))))
 .exact SR.halt _ (.stuck _) _ trivial
def SB(v:∀g,G.P.globals.findIdx? (·.name== "internal/bytealg.MaxLen")=some g->G.glob g=true) {i d:bJ} (h:AR G B i d):SR G (QV G) B (Extern.BytealgIndex.index i) (Extern.BytealgIndex.index d):=by
 rcases two_of h with⟨a,b,F,H,rfl,rfl,p,r⟩|⟨f,j⟩
 .unfold Extern.BytealgIndex.index;refine ZL (oK p) fun y s f=>?_;refine ZL (oK (r.mono f)) fun A c j=>?_;dsimp only;refine ZL (SA v) fun C m I=>?_;split;·exact SR.halt _ (.unsupported (.noEntry _)) _ trivial
  .split;·exact SR.halt _ (.unsupported (.noEntry _)) _ trivial
   .split<;>exact Zy (fQ _)
 .have e:∀ys:Array Value,ys.size≠2->Extern.BytealgIndex.index ys=stuck "bytealg.Index: two arguments expected":=by intro ys x;obtain⟨l⟩:=ys;match l,x with
   |[],_=>rfl|[_],_=>rfl|[_,_],h=>exact absurd rfl h|_::_::_::_,_=>rfl
  rw[e _ f,e _ j];exact SR.halt _ (.stuck _) _ trivial
end
end Go.Twin
namespace Go.Twin
open Go.Conc
open Go.ConcN (upd)
section
variable (E:Env)(W0:World)(J:aL)(U:hN)(Ch:hB)(Post:hS)(sh:hN)(bs:hA)
structure Goes1 (n:Node):Prop where go:KGo E W0 J U Ch Post n
structure Turn1 (n:Node):Prop where go:gG E W0 J U Ch Post n
def U9(f:y1)(cs:hA)(l:World):Prop:=∀n:Node,n.sh=sh->n.bs=bs->n.f=f->n.cs=cs->(∃t d,n.l=l.re t d)->Goes1 E W0 J U Ch Post n
structure StopK (f:y1)(cs:hA)(l:World):Prop where
 deep:cs≠[]
 calm:∀c,f.mode≠.panicking c
 good:∀n:Node,n.sh=sh->n.bs=bs->n.f=f->n.cs=cs->(∃t d,n.l=l.re t d)->Turn1 E W0 J U Ch Post n
end
section
variable {E:Env} {W0:World} {J:aL} {U:hN} {Ch:hB} {Post:hS} {sh:hN} {bs:hA}
def ZU:Halts (StopK E W0 J U Ch Post sh bs):=⟨fun f cs l h=>⟨h.deep,h.calm⟩,fun f cs l t d h=>⟨h.deep,h.calm,fun n g j m p ⟨s,c,r⟩=>h.good n g j m p ⟨s,c,r⟩⟩⟩
def nF(r:E.Fine)(c:E.sh=true)(s:∀k j,J k=some j->eP E j) {f:y1} {cs:hA} {l:World} (a:LG E (StopK E W0 J U Ch Post sh bs) f cs l):U9 E W0 J U Ch Post sh bs f cs l:=by rintro n rfl rfl rfl rfl ⟨t,d,v⟩;refine⟨QS r c s (ZU (sh:=n.sh) (bs:=n.bs)) (by rw[v];exact a.re ZU t d) fun h m p x g=>?_⟩;exact(g.good h m p rfl rfl ⟨h.l.tape,h.l.drawn,rfl⟩).go
variable {b:y1} {a:Act} {ops:aG} {i:Nat} {rest:y0} {o:Oper} {k:List Item} {cs:hA} {l:World}
def qL{f:List Item}:∀c,(b.at a f).mode≠.panicking c:=fun c h=>by cases h
def SC(m:E.sh=true)(h:cs≠[])(p:ops[i]?=some o)(v:o.guard=none)(hrun:∀(a:Act) (w:World),(execOp a.eval o).run E.P w=.ok (.value (.chan (some w.heap.size))) (w.alloc (.chan 1 #[] false 0 0 false))) (j:∀(a:Act) (w:World),(execOp a.eval o).events E.P w #[]=#[])(A:∀c,W0.heap.size<=c->U9 E W0 J U (some c) Post sh bs (b.at (a.put o.dst (.chan (some c))) (.inRegion ops rest::k)) cs l):StopK E W0 J U none Post sh bs (b.at a (.inRegion ops (i::rest)::k)) cs l:=by refine⟨h,qL,?_⟩;rintro n rfl rfl g rfl y;refine⟨QW m (fun r=>RE (n:=n) (by rw[g];rfl) (by rw[g];rfl) (by rw[g];rfl) p v hrun j r) fun c s=>?_⟩;have x:=A c s {n with f:=n.f.finish (.chan (some c))} rfl rfl (by show n.f.finish _=_;rw[g,cL,p];rfl) rfl y;exact @x.go
def I5(r:E.Fine)(m:E.sh=true)(s:∀k j,J k=some j->eP E j)(g:cs≠[]) {K:Nat} {j:Job} (y:0<K)(I:J K=some j)(C:U K)(F:∀v,j.V v->bG 8 v=true)(p:ops[i]?=some o)(H:o.guard=none) {x:Nat} {zz:Value} (e:a.tmps.getD x undef=.chan (some j.ch))(d:∀(ρ:aE)(w:World),(execOp ρ o).run E.P w=.ok (.comm #[{chan:=ρ (.tmp x),send:=none,zero:=zz}] true (.recv false)) w)(h:∀(ρ:aE)(w:World),(execOp ρ o).events E.P w #[]=#[])(Q:∀v,j.V v->U9 E W0 J (fun x=>U x/\x≠K) none Post sh bs (b.at (a.put o.dst v) (.inRegion ops rest::k)) cs l):StopK E W0 J U none Post sh bs (b.at a (.inRegion ops (i::rest)::k)) cs l:=by refine⟨g,qL,?_⟩;rintro n rfl rfl c rfl N;refine⟨QT r m s y I C F (fun A=>RD (n:=n) (by rw[c];rfl) (by rw[c];rfl) (by rw[c];rfl) p H (by rw[c];exact e) d h A) fun v O=>?_⟩;have L:=Q v O {n with f:=n.f.finish v} rfl rfl (by show n.f.finish _=_;rw[c,cL,p];rfl) rfl N;exact @L.go
def SD{S:Env} (p:SubG S E E)(I:E.junk=true)(Q:∀g,E.dark g=false)(H:E.sh=true)(r:E.free=true)(R:∀g,E.glob g=false)(N:cs≠[]) {X Y:hN} {c F x:Nat} (O:E.dfr F=true) {V:fC} {fn:Func} {body:Code} {cap:bJ} (D:ops[i]?=some o)(hg:o.guard=none)(hd:o.dst=none)(hx:a.tmps.getD x undef=.func (.func F) #[] cap)(hrun:∀(ρ:aE)(m:bJ)(w:World),ρ (.tmp x)=.func (.func F) #[] m->(execOp ρ o).run E.P w=.ok (.spawn {target:=.fn (.func F) m,args:=#[]}) w/\(execOp ρ o).events E.P w #[]=#[])(hf:E.P.funcs[F]?=some fn)(e:fn.body=some body)(s:(fn.name== "runtime.NumGoroutine")=false)(G:aV body=true)(hcap:∀v∈cap,VR S (idX fun b=>X b∨Y b) v v)(z:∀b,X b->sh b)(u:cK S X l)(hY:∀b,Y b->∃c T f,l.heap[b]?=some (.cells c T f))(hL:LG E (N3 E.P F c V) ((base F).at ⟨cap++Array.replicate (fn.ntmps-cap.size) undef,[]⟩ [.code body]) [ZJ E.P] (sanW S (fun b=>X b∨Y b) Y l))(kk:∀K,0<K->J K=none->U9 E W0 (upd J K (some ⟨c,V,[bot E.P],N3 E.P F c V⟩)) (fun x=>U x∨x=K) none Post (fun b=>sh b∨Y b) bs (b.at (a.put o.dst undef) (.inRegion ops rest::k)) cs (sanW S (fun b=>X b∨Y b) Y l)):StopK E W0 J U (some c) Post sh bs (b.at a (.inRegion ops (i::rest)::k)) cs l:=by
 refine⟨N,qL,?_⟩;rintro n rfl rfl h rfl ⟨t,d,Z⟩;have y:∀b,Y b->∃c T f,n.l.heap[b]?=some (.cells c T f):=fun b e=>by rw[Z];exact hY b e
 have A:cK S X n.l:=fun b e=>by rw[Z];exact u b e
 refine⟨@QZ E W0 J U (some c) Post n {n with sh:=fun b=>n.sh b∨Y b,l:=sanW S (fun b=>X b∨Y b) Y n.l} (fun L=>RQ (X:=X) p I H y L) (fun W x e=>⟨W,e,.inl⟩) ?_⟩;have C:sanW S (fun b=>X b∨Y b) Y n.l=(sanW S (fun b=>X b∨Y b) Y l).re t d:=by rw[Z];rfl
 intro M S0 gs w sl t0 q fa ca j;refine QX (n:={ n with sh:=fun b=>n.sh b∨Y b,l:=sanW S (fun b=>X b∨Y b) Y n.l }) (jb:=⟨c,V,[bot E.P],N3 E.P F c V⟩) rfl (nK:=⟨fun b=>X b∨Y b,[bot E.P],n.B.on fun b=>X b∨Y b,(base F).at ⟨cap++Array.replicate (fn.ntmps-cap.size) undef,[]⟩ [.code body],[ZJ E.P],sanW S (fun b=>X b∨Y b) Y n.l,N3 E.P F c V⟩) rfl rfl (vZ _ _ _ _)
  (by rw[C];exact hL.re (vZ _ _ _ _) t d) (fun b x e=>⟨e.2,b,e.1,e.2.imp (z b) id⟩) (fun L=>?_) (fun K h1 h2=>?_) j;·exact RG (S:=S) (n:={n with sh:=fun b=>n.sh b∨Y b,l:=sanW S (fun b=>X b∨Y b) Y n.l}) p Q H r R O (by rw[h];rfl) (by rw[h];rfl) (by rw[h];rfl) D hg hd (by rw[h];exact hx) hrun hf e s G hcap (fun b e=>e.imp (z b) id) (wC A y) L
 .have hk:=kk K h1 h2 {n with sh:=fun b=>n.sh b∨Y b,l:=sanW S (fun b=>X b∨Y b) Y n.l,f:=n.f.finish undef} rfl rfl (by show n.f.finish _=_;rw[h,cL,D];rfl) rfl ⟨t,d,C⟩;exact @hk.go
inductive Forget:List Value->List Value->Prop|nil:Forget [] []|keep (v:Value) (l l':hD) (h:Forget l l'):Forget (v::l) (v::l')|drop (v:Value) (l l':hD) (hb:bare v=true) (h:Forget l l'):Forget (v::l) (undef::l')
def G5:∀{l l':hD},Forget l l'->l'.length=l.length/\∀(i:Nat) v,l'[i]?=some v->l[i]?=some v∨(v=undef/\∃u,l[i]?=some u/\bare u=true)
 |_,_,.nil=>⟨rfl,fun i v h=>by simp at h⟩|_,_,.keep v l l' h=>by obtain⟨f,g⟩:=G5 h;refine⟨by simp[f],fun i u c=>?_⟩;cases i with
  |zero=>exact .inl c|succ i=>exact g i u c
 |_,_,.drop v l l' hb h=>by obtain⟨f,g⟩:=G5 h;refine⟨by simp[f],fun i u c=>?_⟩;cases i with|zero=>cases c;exact .inr ⟨rfl,v,rfl,hb⟩|succ i=>exact g i u c
def SE(r:E.junk=true) {a':Act} {m:List Item} (I:a'.defers=a.defers)(s:a'.tmps.size=a.tmps.size)(e:∀(i:Nat) v,a'.tmps[i]?=some v->a.tmps[i]?=some v∨(v=undef/\∃u,a.tmps[i]?=some u/\bare u=true))(h:U9 E W0 J U Ch Post sh bs (b.at a' m) cs l):U9 E W0 J U Ch Post sh bs (b.at a m) cs l:=by
 rintro n rfl rfl A rfl L;have K:=h {n with f:=b.at a' m} rfl rfl rfl rfl L;refine⟨@QY E W0 J U Ch Post n {n with f:=b.at a' m} (fun {d q w} j=>?_) (fun C x H=>⟨C,H,id⟩) @K.go⟩;refine⟨?_,j.wr,j.low⟩;have hF:=j.st.head;rw[A]at hF;have c:=j.st;rw[A]at c;refine c.top ⟨hF.fn,⟨s.trans hF.tmps.size,fun i v y N g=>?_⟩,hF.todo,?_,hF.mode,hF.kind,hF.round⟩ (Blk.le_refl _) rfl rfl
 .rcases e i v N with p|⟨rfl,u,p,F⟩;·exact hF.tmps.at_ i v y p g
  .exact .junk y r (by rw[<-(hF.tmps.at_ i u y p g).bare];exact F)
 .show DR n.B a'.defers d.defers;rw[I];exact hF.defers
def SF (c:E.junk=true) {d xs':hD} {f:List Item} (e:Forget d xs') (h:U9 E W0 J U Ch Post sh bs (b.at ⟨xs'.toArray,[]⟩ f) cs l):U9 E W0 J U Ch Post sh bs (b.at ⟨d.toArray,[]⟩ f) cs l:=SE (a:=⟨d.toArray,[]⟩) (a':=⟨xs'.toArray,[]⟩) c rfl (by simpa using (G5 e).1) (fun i v g=>by simpa using (G5 e).2 i v (by simpa using g)) h
end
def aZ{α:Type} (s:Sem α):Prop:=∀P w a w',s.run P w=.ok a w'->w'=w
section
variable {α β:Type}
def eK(a:α):aZ (Pure.pure a:Sem α):=fun P w b c h=>by cases h;rfl
def qM(h:Halt):aZ (.halt h:Sem α):=fun P w b a h=>by cases h
def fN{s:Sem α} {f:α->Sem β} (h:aZ s)(d:∀a,aZ (f a)):aZ (s>>=f):=fun P w b e c=>by rw[aD]at c;cases g:s.run P w with|halt x w1=>rw[g]at c;cases c|ok a w1=>rw[g]at c;have:=h P w a w1 g;subst this;exact d a P w1 b e c
def AJ:aZ Go.program:=fun P w b a h=>by cases h;rfl
def AK(a:Addr):aZ (load a):=fun P w b c h=>by
 unfold load at h;simp only[Sem.run]at h;split at h;·cases h;rfl
 .split at h;·cases h;rfl
  .cases h
def SG(t:aN):aZ (underlying t):=fN AJ fun P=>by split<;>first|exact eK _|exact qM _
def SH(t:aN):aZ (typeInfo t):=fN AJ fun P=>by split<;>first|exact eK _|exact qM _
def SK(t:aN):aZ (sizeOf t):=fN (SH t) fun _=>eK _
def SL(t:aN):aZ (isAgg t):=fN (SG t) fun d=>by split<;>exact eK _
def I6(a:Addr):∀(n i:Nat)(c:bJ),aZ (loadCellsFrom a i n c)|0,i,c=>eK _|n+1,i,c=>by unfold loadCellsFrom;exact fN (AK _) fun v=>I6 a n _ _
def SM(t:aN)(a:Addr):aZ (loadVar t a):=by
 unfold loadVar;refine fN (SL t) fun b=>?_;split;·exact fN (SK t) fun n=>fN (I6 a n 0 #[]) fun c=>eK _
 .exact AK _
def SN(v:Value):aZ (asAddr v):=by unfold asAddr;split<;>first|exact eK _|exact qM _|(intro P w b a h;simp[runtimePanic,Sem.run]at h)
def AL(fn:Func)(t:bJ):aZ (results fn t):=by
 unfold results;simp only[pW];have f:∀(c:List ResultVar),aZ (c.mapM fun|.tmp g=>Pure.pure (t.getD g undef)|.cell a ty=>do loadVar ty (<-asAddr (t.getD a undef))):=by intro c;induction c with|nil=>simp only[iH];exact eK _|cons r c ih=>simp only[iG];refine fN ?_ fun v=>fN ih fun h=>eK _;cases r with
   |tmp g=>exact eK _|cell a ty=>exact fN (SN _) fun x=>SM _ _
 refine fN (fN (f _) fun a=>eK _) fun h=>?_;split<;>exact eK _
end
section
variable {E:Env} {W0:World} {J:aL} {U:hN} {Ch:hB} {Post:hS} {sh:hN} {bs:hA}
def wD{B:Blk} {f a c:y1} {b cb:hA} {l w:World} {R:hS} (H:a.kind=.normal)(k:Rel E sh (c::b) B f [ZJ E.P] l a cb w)(n:Ret E.P R f [ZJ E.P] l):∃v s N A t d,R v (l.re t d)/\VR E A v s/\cb=c::b/\stepG E.P true (G a (c::b)) w=.go (G (c.finish s) b) w N/\∀e∈N,EvL (fun _=>False) w.heap.size e:=by have K:=k.st;cases K with
 |cons _ _ _ _ _ _ hs=>cases hs with|cons _ _ _ _ _ _ h=>cases h
 |last _ _ hF hrd=>
  obtain⟨_,v,t,d,o,u⟩:=n;obtain⟨q,V,M,C,I,g⟩:=o;have z:WR E ⟨sh,fun _=>False⟩ B (l.re t d) w:=k.wr.retape rfl rfl rfl fun _ _ x=>x.elim;have Q:=(C4 C hF.tmps).both z k.low (by rw[g];exact fun j y F=>absurd F (hQ.2 y));rw[g]at Q;obtain⟨A,s,D,L,y,F,O,T⟩:=Q;have:=AL C a.tmps E.P w s D y;subst this;have m:a.mode=.returning:=by
   rcases hF.mode with⟨x,_⟩|⟨_,x⟩;·rw[q]at x;cases x
   .exact x
  have p:a.defers=[]:=by have:=hF.defers;rw[V]at this;generalize a.defers=x at this |-;cases this;rfl
  have r:E.P.funcs[a.fn]?=some C:=by rw[<-hF.fn];exact I
  refine⟨v,s,seen E.P a.fn L,A,t,d,u,T,rfl,?_,fun e Z=>qE O.wr (O.ev e (T' Z))⟩;simp[G,stepG,unwind,doReturn,m,p,H,r,y,F,GStep.after]
def SO{R:hS} {R':fC} {c:y1} {a:hA} {f:y1} {l:World} (C:E.dfr f.fn=false)(e:Ret E.P R f [ZJ E.P] l)(Y:∀x,0<x->¬U x)(W:∀v t d,R v (l.re t d)->dJ 8 v=true/\R' v)(y:bs=c::a)(k:∀{v:Value} {w':World} {m:hE} {sl':Option (Nat×Nat)} {N:Trace} {q':c6},R' v->Kept1 W0 w'->m[0]?=some (G (c.finish v) a)->Leavers E.P N m q'->Past (fun _=>False) w'.heap.size N->Fin E.P Post m w' sl' N):StopK E W0 J U Ch Post sh bs f [ZJ E.P] l:=by
 refine⟨Qd,fun ch O=>?_,?_⟩;·obtain⟨_,v,t,d,H,_⟩:=e;rw[H.1]at O;cases O
 rintro n rfl rfl rfl A ⟨t0,d0,H⟩;refine⟨Q6 (fun {w D sl t q b cb} s M S j L p h=>?_) Y⟩;rw[A,H]at j;have g:=Rel.re' j;have F:b.kind=.normal:=g.st.head.kind.2.resolve_right fun x=>(by have:=x.1;rw[C]at this;cases this);rw[y]at g;obtain⟨v,v',T,B',t1,Q,V,Z,rfl,o,z⟩:=wD F g e;obtain⟨s1,s2⟩:=W v t1 Q V;obtain rfl:=Zi 8 s1 Z;have K:stepG E.P (0==0) (G b (c::a)) w=_:=o;have r:=U7 (P:=E.P) (sl:=sl) (i:=0) s K;have I:0<D.size:=(bO.1 s).1;exact⟨_,_,_,_,r,k s2 ⟨L,p,h.1,h.2.1⟩ (by simp[I]) (zI s M _ _ T) (S.own z)⟩
end
end Go.Twin
namespace Go.Twin
open Go.Conc
variable {P:aA} {Post:hS} {gs:hE} {w:World} {sl:Option (Nat×Nat)} {t:Trace}
def SQ{c:hE} {b:World} {a:Option (Nat×Nat)} {g:Trace} {N:Nat} (h:runNT P N (crowd gs w sl) t=(.next (crowd c b a),g))(d:Fin P Post c b a g):Fin P Post gs w sl t:=by
 obtain⟨M,f,o,e,s,j,m,p,r⟩:=d;refine⟨N+M,f,o,e,s,?_,?_,p,r⟩;·rw[iI,runNT_add,h];exact j
 .rw[runN_add,<-runNT_fst P _ _ t,h];exact m
def AM{l fb:y1} {i cb:hA} {q:c6} (u:gs[0]?=some (G l i))(z:Leavers P t gs q)(A:Past (fun _=>False) w.heap.size t)(n:∀d,∃f,stepG P true (G l i) (w.at d)=.go (G fb cb) (w.at d) f/\∀e∈f,EvL (fun _=>False) w.heap.size e)(k:∀{c:hE} {sl':Option (Nat×Nat)} {j:Trace} {p:c6} (d:Nat),c[0]?=some (G fb cb)->Leavers P j c p->Past (fun _=>False) (w.at d).heap.size j->Fin P Post c (w.at d) sl' j):Fin P Post gs w sl t:=by obtain⟨N,c,F,o,sl',j,p,m,_,v,⟨rfl,d,rfl⟩,x,y⟩:=walk_beside (P:=P) (Shun:=fun _=>False) (B:=w.heap.size) (D:=fun _ _ f=>∀e∈f,EvL (fun _=>False) w.heap.size e) (Stop:=fun g o=>g=G fb cb/\∃d,o=w.at d) (fun _ _ _ h=>h) _ 1 gs (G l i) w sl t q (sW _) u z A (by refine .inr ⟨rfl,fun H C=>?_⟩;obtain⟨d,rfl⟩:=C;obtain⟨f,m,s⟩:=n d;rw[m,goes_go];refine⟨s,?_⟩;rintro I ⟨r,rfl⟩;exact⟨rfl,r,rfl⟩);exact SQ m (k d v x y)
section
variable {E:Env} {Post:hS} {W l0:World} {OldB:Blk} {sh:hN}
def SS{R:hS} {u:Value} {c:y1} {a:hA} {f:y1} {l:World} (A:E.dfr f.fn=false)(b:Ret E.P R f [ZJ E.P] l)(o:∀v t d,R v (l.re t d)->v=u)(D:dJ 8 u=true)(j:∀x,x<l0.heap.size->l.heap[x]?=l0.heap[x]?)(k:∀{w':World} {h:hE} {sl':Option (Nat×Nat)} {C:Trace} {J:c6},Kept1 W w'->h[0]?=some (G (c.finish u) a)->Leavers E.P C h J->Past (fun _=>False) w'.heap.size C->Fin E.P Post h w' sl' C):StopG E Post W l0 OldB sh (c::a) f [ZJ E.P] l:=by
 refine⟨Qd,fun S O=>?_,j,?_⟩;·obtain⟨_,v,t,d,z,_⟩:=b;rw[z.1]at O;cases O
 intro B e cb w gs sl t q Z i n g p;have m:e.kind=.normal:=g.st.head.kind.2.resolve_right fun x=>(by have:=x.1;rw[A]at this;cases this);obtain rfl:cb=c::a:=by obtain⟨v,M,H,T,Q,F,I,K,V,L,N⟩:=wD m g b;exact V
 refine AM (fb:=c.finish u) (cb:=a) Z i n (fun d=>?_) fun d r s y=>k ⟨p.kept.size,p.kept.heap,p.kept.os,p.kept.output⟩ r s y;obtain⟨v,M,H,T,Q,F,I,K,_,L,N⟩:=wD m (g.at_ d) b;obtain rfl:=o v Q F I;obtain rfl:=Zi 8 D K;exact⟨H,L,N⟩
end
section
variable {S:Env} {X D:hN}
def GM(S:Env)(X:hN) {v:Value} (a:bare v=true):∃u,VR S (idX X) u u/\(VR S (idX X) v v->u=v)/\∀(E:Env),Sub S E->E.junk=true->VR E (idX X) u v:=by
 by_cases c:VR S (idX X) v v;·exact⟨v,c,fun _=>rfl,fun E g f=>g.vr c⟩
 .exact⟨.tuple #[],undefR,fun h=>absurd h c,fun E g f=>.junk v f a⟩
def Cl(S:Env)(X:hN):∀(v:Value),∃u,VR S (idX X) u u/\(VR S (idX X) v v->u=v)/\∀(E:Env),Sub S E->E.junk=true->VR E (idX X) u v
 |.iface t v=>by obtain⟨u,g,f,K⟩:=Cl S X v;refine⟨.iface t u,.iface _ _ _ g,fun h=>?_,fun E p m=>.iface _ _ _ (K E p m)⟩;cases h with|iface _ _ _ h4=>rw[f h4]
 |.agg xs=>by
  have A:∀i:_root_.Fin xs.size,∃u,VR S (idX X) u u/\(VR S (idX X) xs[i] xs[i]->u=xs[i])/\∀(E:Env),Sub S E->E.junk=true->VR E (idX X) u xs[i]:=fun i=>Cl S X xs[i];have x:(Array.ofFn fun i=>(A i).choose).size=xs.size:=Qd
  have j:∀(i:Nat)(u:Value),(Array.ofFn fun i=>(A i).choose)[i]?=some u->∃v,xs[i]?=some v/\VR S (idX X) u u/\(VR S (idX X) v v->u=v)/\∀(E:Env),Sub S E->E.junk=true->VR E (idX X) u v:=by
   intro i u y;rw[zL]at y;split at y;·rename_i H;cases y;exact⟨xs[i],e3 H,(A ⟨i,H⟩).choose_spec⟩
   .cases y
  refine⟨.agg (Array.ofFn fun i=>(A i).choose),.agg _ _ rfl fun i u L g f=>?_,fun h=>?_,fun E p m=>?_⟩;·rw[g]at f;cases f;obtain⟨v,r,C,_⟩:=j i u g;exact C
  .cases h with|agg _ _ _ h4=>congr 1;refine xA x fun i g f=>?_;obtain⟨v,r,C,F,_⟩:=j i _ (e3 g);rw[e3 f]at r;cases r;exact F (h4 i _ _ (e3 f) (e3 f))
  .refine .agg _ _ x fun i u N g f=>?_;obtain⟨v,r,C,F,I⟩:=j i u g;rw[f]at r;cases r;exact I E p m|.bool b=>⟨.bool b,.bool b,fun _=>rfl,fun E p m=>.bool b⟩|.int k n=>⟨.int k n,.int k n,fun _=>rfl,fun E p m=>.int k n⟩|.string s=>⟨.string s,.string s,fun _=>rfl,fun E p m=>.string s⟩|.nilIface=>⟨.nilIface,.nilIface,fun _=>rfl,fun E p m=>.nilIface⟩|.float a b=>GM S X rfl|.complex a b c=>GM S X rfl|.pointer a=>GM S X rfl|.slice a b c=>GM S X rfl|.map a=>GM S X rfl|.chan a=>GM S X rfl|.func a b c=>GM S X rfl|.nilFunc=>GM S X rfl|.tuple a=>GM S X rfl termination_by v=>SizeOf.sizeOf v decreasing_by
 .simp_wf;omega
 .have:=zM xs i.1 i.2;simp_wf;have e:SizeOf.sizeOf xs[i]=SizeOf.sizeOf xs[i.1]:=rfl;omega
noncomputable def clean(S:Env)(X:hN)(v:Value):Value:=(Cl S X v).choose
def SU(S:Env) (X:hN) (v:Value):VR S (idX X) (clean S X v) (clean S X v):=(Cl S X v).choose_spec.1
def SV{v:Value} (h:VR S (idX X) v v):clean S X v=v:=(Cl S X v).choose_spec.2.1 h
def SW{E:Env} (a:Sub S E) (c:E.junk=true) (v:Value):VR E (idX X) (clean S X v) v:=(Cl S X v).choose_spec.2.2 E a c
def cU(D:hN)(w:World)(b:Nat):Prop:=(∃c T f,w.heap[b]?=some (.cells c T f))/\¬D b
noncomputable def AN(S:Env)(X:hN)(o:Obj):Obj:=match o with|.cells c T _=>.cells (c.map (clean S X)) T (0,c.size+1)|o=>o
open Classical in noncomputable def dV(S:Env)(D:Nat->Prop)(w:World):World:={w with heap:=w.heap.mapIdx fun b o=>if D b then .deferred none else AN S (cU D w) o}
def S7{w:World}:(dV S D w).heap.size=w.heap.size:=by simp[dV]
def oL{w:World} {b:Nat} (h:¬D b) {c:bJ} {T:aN} {f:Nat×Nat} (g:w.heap[b]?=some (.cells c T f)):(dV S D w).heap[b]?=some (.cells (c.map (clean S (cU D w))) T (0,(c.map (clean S (cU D w))).size+1)):=by simp only[dV,C9,g];simp[h,AN]
def AO{w:World} {b:Nat} (h:D b)(a:b<w.heap.size):(dV S D w).heap[b]?=some (.deferred none):=by simp only[dV,C9,e3 a];simp[h]
def SX{w:World} {a:Addr} {v:Value} (h:¬D a.block)(b:w.cell? a=some v)(j:VR S (idX (cU D w)) v v):(dV S D w).cell? a=some v:=by cases g:w.heap[a.block]? with|none=>simp[World.cell?,g]at b|some o=>cases o with
  |cells c T f=>
   simp only[World.cell?,g]at b;simp only[World.cell?,oL h g];split at b;·cases b
   .rename_i m;rw[q' m,bD,b,bV,SV j]|_=>simp[World.cell?,g]at b
def SY{E:Env} (a:Sub S E)(K:E.junk=true)(C:E.sh=true) {w:World} (A:∀g,E.glob g=true->cU D w g)(j:∀g,E.dark g=true->D g/\g<w.heap.size)(s:E.P.globals.size<=w.heap.size):WR E ⟨cU D w,fun _=>False⟩ (idX (cU D w)) (dV S D w) w:=by
 have r:∀b,cU D w b->b<w.heap.size:=fun b h=>by obtain⟨⟨_,_,_,h⟩,_⟩:=h;exact(bO.1 h).1
 refine⟨fun b m Q x y=>x.1.symm.trans y.1,fun b c m x y=>x.1.trans y.1.symm,fun b m x=>?_,fun b m x N=>absurd x.2 N,fun b m x R=>?_,fun _ _ x=>x.elim,fun g p=>⟨rfl,A g p⟩,fun b m x=>by rw[x.1],⟨by rw[S7];exact s,s⟩,fun h=>(by rw[C]at h;cases h),fun g p=>⟨AO (j g p).1 (j g p).2,fun m x=>x.2.2 (j g p).1⟩⟩;·obtain⟨rfl,v⟩:=x;rw[S7];exact⟨r b v,r b v⟩
 .obtain⟨rfl,v⟩:=x;obtain⟨⟨c,T,f,H⟩,L⟩:=id v;refine⟨_,c,T,f,oL L H,H,⟨Qd,fun i u O I F=>?_⟩⟩;rw[bD,F,bV]at I;cases I;exact SW a K O
def SZ(H:S.sh=true) {w:World} (F:∀g,S.glob g=true->cU D w g) (m:∀g,S.dark g=true->D g/\g<w.heap.size) (s:S.P.globals.size<=w.heap.size):Self S (cU D w) (idX (cU D w)) (dV S D w):=by
 have p:∀b,cU D w b->b<w.heap.size:=fun b h=>by obtain⟨⟨_,_,_,h⟩,_⟩:=h;exact(bO.1 h).1
 refine⟨⟨fun b j Q x y=>x.1.symm.trans y.1,fun b c j x y=>x.1.trans y.1.symm,fun b j x=>?_,fun b j x O=>absurd x.2 O,fun b j x K=>?_,fun _ _ _=>rfl,fun g r=>⟨rfl,F g r⟩,fun b j x=>by rw[x.1],⟨by rw[S7];exact s,by rw[S7];exact s⟩,fun h=>(by rw[H]at h;cases h),fun g r=>⟨AO (m g r).1 (m g r).2,fun j x=>x.2.2 (m g r).1⟩⟩,fun b K=>by rw[S7];exact p b K,fun b j x=>x.1⟩;·obtain⟨rfl,C⟩:=x;rw[S7];exact⟨p b C,p b C⟩
 .obtain⟨rfl,C⟩:=x;obtain⟨⟨c,T,f,L⟩,N⟩:=id C;refine⟨_,_,T,_,oL N L,oL N L,⟨rfl,fun i u V I A=>?_⟩⟩;rw[I]at A;cases A;rw[bD]at I;obtain⟨v,R,rfl⟩:=e'.1 I;exact SU S _ v
end
section
variable {E:Env} {Post:hS} {W l0:World} {OldB:Blk} {sh:hN} {bs':hA}
def S1(hG:E.Fine)(H:∀b x,OldB b x->sh b∨(b=x/\x<l0.heap.size/\l0.heap[x]?=W.heap[x]?/\E.sh=false/\E.junk=false)) {b:y1} {a:Act} {k:List Item} {cs:hA} {z:aG} {i:Nat} {rest:y0} {o:Oper} {g:FuncId} {l:World} {R:fC} (Q:cs≠[])(Y:z[i]?=some o)(hg:o.guard=none)(M:∀(a:Act)(w:World),(execOp a.eval o).run E.P w=.ok (.enter g #[]) w)(T:∀(a:Act)(w:World),(execOp a.eval o).events E.P w #[]=#[])(p:∀x,x<l0.heap.size->l.heap[x]?=l0.heap[x]?)(V:∀{w:World},Kept1 W w->fE E.P (Frame.enter E.P g #[] .normal) w R)(hR:∀v,R v->bG 8 v=true)(kk:∀v n,R v->LG E (StopG E Post W l0 OldB sh bs') (b.at (a.put o.dst v) (.inRegion z rest::k)) cs (pad l n)):StopG E Post W l0 OldB sh bs' ((b.at a (.inRegion z (i::rest)::k))) cs l:=by
 refine⟨Q,fun c h=>(by cases h),p,?_⟩;intro B J U w gs sl t q h0 N hP f A;have hF:=f.st.head;obtain⟨k',e,hk⟩:=hF.oper rfl rfl rfl;have aA:Region.wanted o (yielded z (⟨J.tmps,J.defers⟩:Act).tmps)=true:=by unfold Region.wanted;rw[hg]
 have r:∀d,∃X,stepG E.P true (G J U) (w.at d)=.go (G (Frame.enter E.P g #[] .normal) (J::U)) (w.at d) X/\∀e∈X,EvL (fun _=>False) w.heap.size e:=by intro d;have K:=stepG_enter (P:=E.P) (main:=true) (b:=J) (a:=⟨J.tmps,J.defers⟩) (k:=k') (rest:=rest) (cs:=U) (w:=w.at d) Y aA hF.noEarly (M _ _);rw[<-e]at K;rw[listed_nil (T _ _)]at K;exact⟨_,K,fun e he=>by simp at he⟩
 refine AM (fb:=Frame.enter E.P g #[] .normal) (cb:=J::U) h0 N hP r fun {aC aF t1 q1} d I L O=>?_;have F:Kept1 W (w.at d):=⟨A.kept.size,A.kept.heap,A.kept.os,A.kept.output⟩;refine V F I L O fun {v w' aB aE t' q'} hv j s y C=>?_;have Z:=f.st;have aD:=j;refine kB hG H (kk v (w'.heap.size-w.heap.size) hv) s y C ⟨?_,zY (w:=w) ⟨j.size,j.heap,j.os,j.output⟩ (fun hs=>?_) (fun i h=>h) f.wr,fun b hb=>?_⟩ ⟨F.trans j,A.old⟩;·have m:=hF.finish (VR.closed (G:=E) (B:=B) 8 v (hR v hv));rw[cL,Y]at m;exact Z.top m (Blk.le_refl _) rfl
 .have:=(f.wr.sh hs).2.1;have:w.heap.size<=w'.heap.size:=j.size;omega
 .rw[fS];have:=f.low b hb;omega
def I7{B:Blk} {f a:y1} {i:hA} {l w:World} {R:hS} (F:a.kind=.normal)(o:E.P.inits.idxOf? a.fn=none)(b:Rel E sh [] B f [ZJ E.P] l a i w)(k:Ret E.P R f [ZJ E.P] l):∃v r L y t d,R v (l.re t d)/\VR E y v r/\i=[]/\stepG E.P true (G a []) w=.ended (.done r) w L/\∀e∈L,EvL (fun _=>False) w.heap.size e:=by have I:=b.st;cases I with
 |cons _ _ _ _ _ _ hs=>cases hs with|cons _ _ _ _ _ _ h=>cases h
 |last _ _ hF hrd=>
  obtain⟨_,v,t,d,Z,u⟩:=k;obtain⟨q,T,M,A,H,c⟩:=Z;have z:WR E ⟨sh,fun _=>False⟩ B (l.re t d) w:=b.wr.retape rfl rfl rfl fun _ _ x=>x.elim;have O:=(C4 A hF.tmps).both z b.low (by rw[c];exact fun j s C=>absurd C (hQ.2 s));rw[c]at O;obtain⟨y,r,J,K,s,C,N,Q⟩:=O;have:=AL A a.tmps E.P w r J s;subst this;have g:a.mode=.returning:=by
   rcases hF.mode with⟨x,_⟩|⟨_,x⟩;·rw[q]at x;cases x
   .exact x
  have m:a.defers=[]:=by have:=hF.defers;rw[T]at this;generalize a.defers=x at this |-;cases this;rfl
  have p:E.P.funcs[a.fn]?=some A:=by rw[<-hF.fn];exact H
  refine⟨v,r,seen E.P a.fn K,y,t,d,u,Q,rfl,?_,fun e V=>qE N.wr (N.ev e (T' V))⟩;simp[G,stepG,unwind,doReturn,g,m,F,p,s,C,o,GStep.after]
def S4{R:hS} {u:Value} {f:y1} {l:World} (r:E.dfr f.fn=false)(o:E.P.inits.idxOf? f.fn=none)(b:Ret E.P R f [ZJ E.P] l)(i:∀v t d,R v (l.re t d)->v=u)(z:dJ 8 u=true)(g:∀x,x<l0.heap.size->l.heap[x]?=l0.heap[x]?)(k:∀w',Kept1 W w'->Post u w'):StopG E Post W l0 OldB sh [] f [ZJ E.P] l:=by
 refine⟨Qd,fun J I=>?_,g,?_⟩;·obtain⟨_,v,t,d,Z,_⟩:=b;rw[Z.1]at I;cases I
 intro B e N w gs sl t q Q T V c p;have hF:=c.st.head;have m:e.kind=.normal:=hF.kind.2.resolve_right fun x=>(by have:=x.1;rw[r]at this;cases this);have j:E.P.inits.idxOf? e.fn=none:=by rw[<-hF.fn];exact o
 obtain rfl:N=[]:=by obtain⟨v,G,y,L,K,s,A,C,O,F,H⟩:=I7 m j c b;exact O
 refine beside_ends (D:=fun _ _ _=>False) (n:=0) (fun _ _ _ h=>h.elim) Q T V ?_;rintro M ⟨d,rfl⟩;obtain⟨v,G,y,L,K,s,A,C,_,F,H⟩:=I7 m j (c.at_ d) b;obtain rfl:=i v K s A;obtain rfl:=Zi 8 z C;exact⟨rfl,_,y,F,H,k _ ⟨p.kept.size,p.kept.heap,p.kept.os,p.kept.output⟩⟩
end
section
variable {S E:Env} {D:hN} {Post:hS}
def S5(y:E.Fine)(n:Sub S E)(A:E.junk=true)(r:E.sh=true)(c:E.free=true) {F:Nat} {fn:Func} {i:Code} {d:bJ} {W:World} (l:E.P.funcs[F]?=some fn)(k:fn.body=some i)(H:aV i=true)(p:∀g,E.glob g=true->cU D W g)(m:∀g,E.dark g=true->D g/\g<W.heap.size)(s:E.P.globals.size<=W.heap.size)(z:AR S (idX (cU D W)) d d)(o:LG E (StopG E Post W (dV S D W) (idX (cU D W)) (cU D W) []) (Frame.enter E.P F d .normal) [ZJ E.P] (dV S D W)):Fin E.P Post #[G (Frame.enter E.P F d .normal) []] W none #[]:=by
 refine RU fun {gs sl t q} v j C=>?_;refine kB y (fun b x k=>.inl k.2) o v j C (B:=idX (cU D W)) ⟨?_,SY n A r p m s,fun b k=>?_⟩ ⟨Kept1.refl W,fun b x k _=>k⟩
 .have e:(Frame.enter E.P F d .normal).tmps=d++Array.replicate (fn.ntmps-d.size) undef:=by simp[Frame.enter,l]
  refine .last _ _ ⟨rfl,?_,?_,?_,.inl ⟨rfl,rfl⟩,⟨rfl,.inl rfl⟩,.inl ⟨rfl,rfl⟩⟩ rfl;·rw[e];exact(n.ar z).append (AR.replicate _ undefR)
  .have e:(Frame.enter E.P F d .normal).todo=[.code i]:=by simp[Frame.enter,l,k]
   rw[e];exact .cons _ _ _ _ (.code _ ⟨H,fun f=>by rw[c]at f;cases f⟩) .nil
  .exact .nil
 .obtain⟨⟨_,_,_,h⟩,_⟩:=k;rw[S7];exact(bO.1 h).1
end
end Go.Twin
namespace Go.Proofs
open Go.Twin
def gX:List Nat:=[50,52,72,101,77,78,79,80,76,83,100,99,113,122,123,136,137,25]
noncomputable def EnvS:Env:={P:=Tryz.prog,good:=fun f=>gX.contains f,glob:=fun _=>false,sh:=true,free:=false,junk:=false,nn:=true,dfr:=fun _=>false,dark:=fun _=>false,tab:=.refuse "#"}
def uN:Strict EnvS:=⟨rfl,rfl,fun _=>rfl,rfl⟩
def I8(E:Env)(f:Nat):Bool:=match E.P.funcs[f]? with| some fn => (fn.name != "runtime.NumGoroutine") && (match fn.body with | some c => E.code c | none => false)|none=>true
def qN(E:Env)(l:y0)(x:∀f,E.good f=l.contains f)(h:l.all (I8 E)=true)(y:E.junk=false):E.Fine:=by
 have r:∀f fn,E.good f=true->E.P.funcs[f]?=some fn->(fn.name== "runtime.NumGoroutine")=false/\∃c,fn.body=some c/\E.code c=true:=by intro f fn p g;rw[x]at p;have j:=bP.1 h f (by simpa using p);unfold I8 at j;rw[g]at j;simp only[aY]at j;refine⟨by simpa using j.1,?_⟩;cases m:fn.body with|none=>rw[m]at j;exact absurd j.2 Qd|some c=>rw[m]at j;exact⟨c,rfl,j.2⟩
 refine⟨fun _ f fn c p g m=>?_,fun f fn c p g m=>?_,fun h=>(by rw[y]at h;cases h),fun f fn p g=>(r f fn p g).1,fun f fn p g m=>?_,fun f fn e p g m=>?_⟩;·obtain⟨_,v,j,s⟩:=r f fn p g;rw[m]at j;cases j;exact s
 .obtain⟨_,v,j,s⟩:=r f fn p g;rw[m]at j;cases j;exact jA c s
 .obtain⟨_,v,j,s⟩:=r f fn p g;rw[j]at m;cases m
 .obtain⟨_,v,j,s⟩:=r f fn p g;rw[j]at m;cases m
def uO:EnvS.Fine:=qN EnvS gX (fun _=>rfl) Qb rfl
noncomputable def oP:Env:=EnvS.wide EnvS.good false (.refuse "#")
def I9:oP.Fine:=qN oP gX (fun _=>rfl) Qb rfl
def oM:List Nat:=gX++[81,82]
noncomputable def eV:Env:={EnvS with good:=fun f=>oM.contains f,free:=true,junk:=true,dfr:=fun f=>f==82}
def oN(P:aA)(f:Nat):Bool:=match P.funcs[f]? with| some fn => (fn.name != "runtime.NumGoroutine") && (match fn.body with | some c => aV c | none => false)|none=>true
def kC(E:Env)(l:y0)(v:∀f,E.good f=l.contains f)(h:l.all (oN E.P)=true)(x:E.junk=true->E.nn=true)(a:E.free=true):E.Fine:=by
 have p:∀f fn,E.good f=true->E.P.funcs[f]?=some fn->(fn.name== "runtime.NumGoroutine")=false/\∃c,fn.body=some c/\aV c=true:=by intro f fn a g;rw[v]at a;have j:=bP.1 h f (by simpa using a);unfold oN at j;rw[g]at j;simp only[aY]at j;refine⟨by simpa using j.1,?_⟩;cases m:fn.body with
  |none=>rw[m]at j;exact absurd j.2 Qd|some c=>rw[m]at j;exact⟨c,rfl,j.2⟩
 refine⟨fun h=>(by rw[a]at h;cases h),fun f fn c a g m=>?_,x,fun f fn a g=>(p f fn a g).1,fun f fn a g m=>?_,fun f fn e a g m=>?_⟩;·obtain⟨_,s,j,r⟩:=p f fn a g;rw[m]at j;cases j;exact r
 .obtain⟨_,s,j,r⟩:=p f fn a g;rw[j]at m;cases m
 .obtain⟨_,s,j,r⟩:=p f fn a g;rw[j]at m;cases m
def mG:eV.Fine:=kC eV oM (fun _=>rfl) Qb (fun _=>rfl) rfl
def kD:Sub oP eV:=⟨rfl,rfl,rfl,rfl,rfl,fun h=>(by cases h),fun f h=>by have c:gX.contains f=true:=h;show oM.contains f=true;simp only[oM,qH,C1,h6]at c |-;exact .inl c,fun h=>h⟩
def I':Sub oP EnvS:=⟨rfl,rfl,rfl,rfl,rfl,fun h=>h,fun f h=>h,fun h=>h⟩
open Tryz
def iN:List Nat:=[20,54,15,69,41,18,23,19,48,50,51,49,52,38,39,84,40,85,86,55,42,24,25,43,44,45,93,94,95,96,70,97,58,72,73,112,101,56,57,77,78,79,80,76,102,103,104,83,71,111,98,100,109,87,88,99,113,120,105,106,107,108,110,122,123,134,114,115,116,117,118,119,121,125,136,137,143,144,145,146,124,126,127,128,129,130,131,132,133,135,138,149,150,151,152,153,139,140,141,142,154,155,147,148]
noncomputable def ZP:Env:={P:=prog,good:=fun f=>iN.contains f,glob:=fun g=>[0,5,1,2,6,7].contains g,sh:=false,free:=false,junk:=false,nn:=true,dfr:=fun _=>false,dark:=fun g=>[3,4].contains g,tab:=.refuse "#"}
def CL:Strict ZP:=⟨rfl,rfl,fun _=>rfl,rfl⟩
def eW:List Nat:=[116,126,138]
noncomputable def JA(E:Env)(f:Nat):Bool:=match E.P.funcs[f]? with| some fn => (fn.name != "runtime.NumGoroutine") && (match fn.body with | some c => E.code c | none => eW.contains f && (Extern.findNext fn).isNone)|none=>true
def S6:Extern.find Tryz.f116=some Extern.BytealgCount.count:=Qb
def TA:Extern.find Tryz.f126=some Extern.BytealgIndex.index:=Qb
def TB:Extern.find Tryz.f138=some Extern.BytealgIndexByte.indexByte:=Qb
def TC:prog.globals.findIdx? (·.name== "internal/bytealg.MaxLen")=some 0:=Qb
def qO(E:Env) (r:E.P=prog) (m:E.glob 0=true) {f:Nat} {fn:Func} {e:Array Value->Sem Value} (c:E.P.funcs[f]?=some fn) (d:eW.contains f=true) (j:Extern.find fn=some e) (B:Blk) (b a:bJ) (h:AR E B b a):SR E (QV E) B (e b) (e a):=by
 rw[r]at c;have p:f=116∨f=126∨f=138:=by simpa [eW] using d
 rcases p with rfl|rfl|rfl;·rw[func116]at c;cases c;rw[S6]at j;cases j;exact RY h
 .rw[func126]at c;cases c;rw[TA]at j;cases j;refine SB (fun g s=>?_) h;rw[r,TC]at s;cases s;exact m
 .rw[func138]at c;cases c;rw[TB]at j;cases j;exact RZ h
def TD(E:Env)(A:E.P=prog)(x:E.glob 0=true)(l:y0)(F:∀f,E.good f=l.contains f)(h:l.all (JA E)=true)(H:E.junk=true->E.nn=true):E.Fine:=by
 have s:∀f fn,E.good f=true->E.P.funcs[f]?=some fn->(fn.name== "runtime.NumGoroutine")=false/\((∃c,fn.body=some c/\E.code c=true)∨(fn.body=none/\eW.contains f=true/\Extern.findNext fn=none)):=by intro f fn r g;rw[F]at r;have j:=bP.1 h f (by simpa using r);unfold JA at j;rw[g]at j;simp only[aY]at j;refine⟨by simpa using j.1,?_⟩;cases m:fn.body with
  |none=>rw[m]at j;have p:=j.2;simp only[aY]at p;exact .inr ⟨rfl,p.1,by simpa using p.2⟩|some c=>rw[m]at j;exact .inl ⟨c,rfl,j.2⟩
 refine⟨fun _ f fn c r g m=>?_,fun f fn c r g m=>?_,H,fun f fn r g=>(s f fn r g).1,fun f fn r g m=>?_,fun f fn e r g m C B K y I=>?_⟩
 .rcases(s f fn r g).2 with⟨v,j,p⟩|⟨j,_⟩;·rw[m]at j;cases j;exact p
  .rw[m]at j;cases j
 .rcases(s f fn r g).2 with⟨v,j,p⟩|⟨j,_⟩;·rw[m]at j;cases j;exact jA c p
  .rw[m]at j;cases j
 .rcases(s f fn r g).2 with⟨v,j,p⟩|⟨_,_,p⟩;·rw[j]at m;cases m
  .exact p
 .rcases(s f fn r g).2 with⟨v,j,p⟩|⟨_,p,_⟩;·rw[j]at m;cases m
  .exact qO E A x g p C B K y I
def ZZ:ZP.Fine:=TD ZP rfl Qc iN (fun _=>rfl) Qb (fun h=>(by cases h))
def TE{E:Env} (h:E.Fine)(r:E.P=prog)(j:E.glob 0=true)(b:∀f fn,E.good f=true->E.P.funcs[f]?=some fn->fn.body.isNone=true->eW.contains f=true)(a:Code):(E.run a).Fine:=⟨fun g=>(by cases g),h.mark,fun x=>(by cases x),h.name,h.next,fun f fn e g c s v B y p m=>qO (E.run a) r j c (b f fn g c s) v B y p m⟩
noncomputable def AP(f:Nat):Bool:=match prog.funcs[f]? with|some fn=>fn.body.isSome||eW.contains f|none=>true
def TF:iN.all AP=true:=Qb
def TG(f:Nat)(fn:Func)(b:iN.contains f=true)(j:prog.funcs[f]?=some fn)(a:fn.body.isNone=true):eW.contains f=true:=by
 have g:=bP.1 TF f (by simpa using b);unfold AP at g;rw[j]at g;simp only[fA]at g;rcases g with g|g;·cases h:fn.body with
  |none=>rw[h]at g;cases g|some c=>rw[h]at a;cases a
 .exact g
def iX(a:Code):(ZP.run a).Fine:=TE ZZ rfl Qc (fun f g j c h=>TG f g j c h) a
def AQ:List Nat:=iN++[22,21,53]
noncomputable def ZR:Env:={ZP with good:=fun f=>AQ.contains f,free:=true}
noncomputable def JB(f:Nat):Bool:=match prog.funcs[f]? with| some fn => (fn.name != "runtime.NumGoroutine") && (match fn.body with | some c => aV c | none => eW.contains f && (Extern.findNext fn).isNone)|none=>true
def TH(E:Env)(C:E.P=prog)(x:E.glob 0=true)(v:E.free=true)(l:y0)(H:∀f,E.good f=l.contains f)(h:l.all JB=true)(I:E.junk=true->E.nn=true):E.Fine:=by
 have s:∀f fn,E.good f=true->E.P.funcs[f]?=some fn->(fn.name== "runtime.NumGoroutine")=false/\((∃c,fn.body=some c/\aV c=true)∨(fn.body=none/\eW.contains f=true/\Extern.findNext fn=none)):=by intro f fn m g;rw[H]at m;rw[C]at g;have j:=bP.1 h f (by simpa using m);unfold JB at j;rw[g]at j;simp only[aY]at j;refine⟨by simpa using j.1,?_⟩;cases r:fn.body with|none=>rw[r]at j;have p:=j.2;simp only[aY]at p;exact .inr ⟨rfl,p.1,by simpa using p.2⟩|some c=>rw[r]at j;exact .inl ⟨c,rfl,j.2⟩
 refine⟨fun m=>(by rw[v]at m;cases m),fun f fn c m g r=>?_,I,fun f fn m g=>(s f fn m g).1,fun f fn m g r=>?_,fun f fn e m g r F B L y K=>?_⟩
 .rcases(s f fn m g).2 with⟨A,j,p⟩|⟨j,_⟩;·rw[r]at j;cases j;exact p
  .rw[r]at j;cases j
 .rcases(s f fn m g).2 with⟨A,j,p⟩|⟨_,_,p⟩;·rw[j]at r;cases r
  .exact p
 .rcases(s f fn m g).2 with⟨A,j,p⟩|⟨_,p,_⟩;·rw[j]at r;cases r
  .exact qO E C x g p F B L y K
def qP:ZR.Fine:=TH ZR rfl Qc rfl AQ (fun _=>rfl) Qb (fun h=>(by cases h))
def TI(l m:y0)(f:Nat)(h:l.contains f=true):(l++m).contains f=true:=by simp only[qH,C1,h6]at h |-;exact .inl h
def Z2:Sub ZP ZR:=⟨rfl,rfl,rfl,rfl,rfl,fun h=>h,fun f h=>TI iN _ f h,fun h=>h⟩
end Go.Proofs
namespace Go.Proofs
open Go.Twin
def DV:List Nat:=[5,20,7,9,10,29,30,31,62,35,36,14,17,34,6,8,11,12,13,15,16,63,69,26,47,41,27,18,46,91,64,48,50,51,49,52,28,32,66,37,65,67,38,39,84,40,86,55,74,42,24,25,33,43,44,45,93,94,95,96,70,97,58,75,72,73,59,112,101,92,77,78,79,80,76,60,61,68,103,104,71,111,98,100,99,89,90,113,122,123,136,137]
noncomputable def dI:Env:={P:=Tryz.prog,good:=fun f=>DV.contains f,glob:=fun _=>false,sh:=true,free:=false,junk:=false,nn:=true,dfr:=fun _=>false,dark:=fun _=>false,tab:=.refuse "#",z0:=true}
def JC:Strict dI:=⟨rfl,rfl,fun _=>rfl,rfl⟩
def HQ:dI.Fine:=qN dI DV (fun _=>rfl) Qb rfl
noncomputable def lV:Env:={dI with free:=true,junk:=true}
def JD:lV.Fine:=kC lV DV (fun _=>rfl) Qb (fun _=>rfl) rfl
def G6:Sub dI lV:=⟨rfl,rfl,rfl,rfl,rfl,fun h=>(by cases h),fun _ h=>h,fun h=>h⟩
def TJ:DV.all (oN Tryz.prog)=true:=Qb
def TK(b:Code):(dI.run b).Fine:=kC (dI.run b) DV (fun _=>rfl) TJ (fun h=>by cases h) rfl
end Go.Proofs
