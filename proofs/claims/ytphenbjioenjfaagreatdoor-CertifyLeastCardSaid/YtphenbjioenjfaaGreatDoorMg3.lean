import Derived.Test.YtphenbjioenjfaaGreatDoorMg2
import Derived.Conc.TokenWalk
import Derived.Conc.CompanyWords
import Derived.Test.YtphenbjioenjfaaGreatDoorProg
theorem Qb{P:Prop}(h:P:=by kernel_rfl):P:=h
set_option linter.unusedVariables false
set_option linter.unusedSimpArgs false
set_option maxRecDepth 100000
set_option maxHeartbeats 16000000
namespace Go
theorem ZyA:type_of% @Array.getElem?_mapIdx:=@Array.getElem?_mapIdx
theorem Zy3:type_of% @Bool.not_eq_true':=@Bool.not_eq_true'
theorem ZzJ:type_of% @List.all_eq_true:=@List.all_eq_true
theorem ZAo:type_of% @List.getElem?_eq_none_iff:=@List.getElem?_eq_none_iff
theorem ZAU:type_of% @List.mem_append:=@List.mem_append
theorem ZAX:type_of% @List.mem_cons:=@List.mem_cons
theorem ZA0:type_of% @List.mem_filter:=@List.mem_filter
theorem ZA5:type_of% @List.mem_of_getElem?:=@List.mem_of_getElem?
theorem ZBD:type_of% @Nat.le_add_right:=@Nat.le_add_right
theorem ZBU:type_of% @Nat.pos_of_ne_zero:=@Nat.pos_of_ne_zero
theorem ZB2:type_of% @Nat.zero_le:=@Nat.zero_le
theorem ZB8:type_of% @Option.map_some:=@Option.map_some
theorem ZCa:type_of% @Option.some.injEq:=@Option.some.injEq
end Go
namespace Go.Twin
open Go.Conc (G)
section
variable {E:Env} {sh:Nat->Prop} {bs':List Frame}
structure Own2 (E:Env)(sh:Nat->Prop)(bs':List Frame)(f:Frame)(cs:List Frame)(l:World)(fa:Frame)(ca:List Frame)(B:Blk):Prop where
 st:ST E B [ZG E.P] bs' (f::cs) (fa::ca)
 wr:WR E ⟨sh,fun _=>True⟩ B l l
 low:∀b,sh b->b<l.heap.size
 idn:∀b b',B b b'->b=b'
theorem Own2.re{f fa:Frame} {cs ca:List Frame} {l:World} {B:Blk} (h:Own2 E sh bs' f cs l fa ca B)(t:Nat->Question->Nat)(d:Nat):Own2 E sh bs' f cs (l.re t d) fa ca B:=⟨h.st,h.wr.retape rfl rfl rfl fun _ _ _=>rfl,h.low,h.idn⟩
theorem Zqu(R:E.Fine)(T:E.junk=false) {f fa:Frame} {cs ca:List Frame} {l:World} {B:Blk} (h:Own2 E sh bs' f cs l fa ca B)(Z:¬ZbO [ZG E.P] f cs)(V:f.mode=.run->Chk E f) {g':Goroutine} {l':World} {es:Array Event} (hs:stepG E.P true (G f cs) l=.go g' l' es):∃y g,g'=G y g/\(PK l' [ZG E.P] y g∨∃r p s v,B.le s/\Own2 E sh bs' y g l' r p s/\stepG E.P true (G fa ca) l=.go (G r p) l' v):=by
 have:=Zfu R h.st h.wr h.low true true V (Zfv h.st Z) (.inl fun _=>trivial);rw[hs]at this;rcases this with⟨y,g,rfl,hp⟩|⟨y,g,r,p,w',v,s,aB,rfl,K,j,L,h5⟩;·exact⟨y,g,rfl,.inl hp⟩
 ·refine⟨y,g,rfl,.inr ?_⟩;have C:∀b b',s b b'->b=b':=by
   intro b b' m;rcases j.al b b' m with x|⟨x1,x2,x3⟩;·exact h.idn _ _ x
   ·omega
  have A:w'.heap=l'.heap:=by
   have aA:w'.heap.size=l'.heap.size:=by have:=j.size.2.2;omega
   apply Zyq;intro b;by_cases m:∃b',s b b'/\¬sh b;·obtain⟨b',m,hs⟩:=m;obtain rfl:=C _ _ m;obtain⟨o,o',N,O,Q⟩:=j.wr.obj _ _ m hs;rw[N,O,Q.eq T C]
   ·have m:∀b',s b b'->sh b:=fun b' x=>Classical.byContradiction fun hs=>m ⟨b',x,hs⟩;by_cases F:b<l.heap.size
    ·rw[j.lkeep b F fun b' x=>m b' (j.le _ _ x)];exact j.keep b F fun c x=>by have:=h.idn _ _ x;subst this;exact m _ (j.le _ _ x)
    ·by_cases H:b<l'.heap.size;·obtain⟨b',x⟩:=j.cov b Qa H;exact absurd (h.low b (m b' x)) F
     ·rw[Zyx Qa,Zyx Qa]
  have I:w'=l':=by obtain⟨s1,s2,s3,s4⟩:=j.same;obtain⟨r1,r2,r3,r4⟩:=j.lone;have hd:=j.draws;obtain⟨wh,wt,wd,wo,wx⟩:=w';obtain⟨lh,lt,ld,lo,lx⟩:=l';simp only at*;subst A s1 s2 s3;rw[r1,r2,r3];congr 1;omega
  subst I;exact⟨r,p,s,v,j.le,⟨L,j.wr.retape rfl rfl rfl fun _ _ _=>rfl,fun b m=>ZBJ (h.low b m) j.size.2.1,C⟩,K⟩
theorem FR.chk_other{B:Blk} {f fa:Frame} (h:FR E B f fa)(g:Chk E f):Chk E fa:=by have j:=h.todo;unfold Chk at g |-;generalize f.todo=x at j g;generalize fa.todo=m at j |-;cases j with|nil=>exact g|cons y y' k k' hy hs=>cases hy with|mark=>exact absurd rfl g|inRegion ops td ho=>cases td<;>exact g|code c hx=>cases c<;>exact g|_=>exact g
theorem FR.mode_run{B:Blk} {f fa:Frame} (h:FR E B f fa)(hm:fa.mode=.run):f.mode=.run:=by
 rcases h.mode with⟨c,g⟩|⟨c,g⟩;·exact c
 ·rw[g]at hm;cases hm
variable {Stop Stop':Frame->List Frame->World->Prop}
theorem Zii(hG:E.Fine)(hJ:E.junk=false)(hS:Halts Stop) {f:Frame} {cs:List Frame} {l:World} (hL:LG E Stop f cs l):∀{B:Blk} {fa:Frame} {ca:List Frame},Own2 E sh bs' f cs l fa ca B->(∀{T:Blk} {V:Frame} {A:List Frame} {l₁:World} {H:Frame} {y:List Frame},Stop V A l₁->B.le T->Own2 E sh bs' V A l₁ H y T->LG E Stop' H y l₁)->LG E Stop' fa ca l:=by induction hL with
 |stop f cs l h=>intro B fa ca v Q;exact Q h (Blk.le_refl _) v|step f cs l hc hg hs ih=>
  intro B fa ca v Q;have R:¬ZbO [ZG E.P] f cs:=by
   intro R;obtain⟨F,m,l',C,c⟩:=hg l.tape l.drawn;rcases Zig (l:=l.re l.tape l.drawn) v.st.head.kind.1 R with⟨o,x,C,s⟩|⟨f2,N,l2,aB,s,I⟩;·rw[s]at c;cases c
   ·exact ZgC hS (hs _ _ _ _ _ _ s) I
  have K:∀t d,∃F m l' C p j L r,stepG E.P true (G f cs) (l.re t d)=.go (G F m) l' C/\B.le L/\Own2 E sh bs' F m l' p j L/\stepG E.P true (G fa ca) (l.re t d)=.go (G p j) l' r:=by
   intro t d;obtain⟨F,m,l',C,c⟩:=hg t d;obtain⟨f2,N,e,hp|⟨p,j,L,r,s,I,O⟩⟩:=Zqu hG hJ (v.re t d) R hc c;·exfalso;simp only[G,Goroutine.mk.injEq,and_true]at e;obtain⟨rfl,rfl⟩:=e;exact ZgC hS (hs _ _ _ _ _ _ c) (.inl hp)
   ·simp only[G,Goroutine.mk.injEq,and_true]at e;obtain⟨rfl,rfl⟩:=e;exact⟨_,_,_,_,_,_,_,_,c,s,I,O⟩
  refine .step fa ca l (fun hm=>v.st.head.chk_other (hc (v.st.head.mode_run hm))) (fun t d=>?_) fun t d g Z l1 aA c=>?_;·obtain⟨_,_,l',_,p,j,_,r,_,_,_,h⟩:=K t d;exact⟨_,_,_,_,h⟩
  ·obtain⟨F,m,l',C,p,j,L,r,s,I,O,h4⟩:=K t d;rw[h4]at c;simp only[GStep.go.injEq,G,Goroutine.mk.injEq,and_true]at c;obtain⟨⟨rfl,rfl⟩,rfl,_⟩:=c;exact ih _ _ _ _ _ _ s O fun h5 h6 h7=>Q h5 (Blk.le_trans I h6) h7
theorem Zk3{P:Program} {f c:Frame} {cs:List Frame} {w:World} {v:Value} (h:f.leaving P w (.returned v)):∃j,stepG P true (G f (c::cs)) w=.go (G (c.finish v) cs) w j:=by
 obtain⟨y,p,x,m,r,g⟩:=h;have A:((results m f.tmps).runT P w #[]).1=.ok v w:=by rw[Sem.runT_eq];exact g
 have:(stepG P true (G f (c::cs)) w).bare=.go (G (c.finish v) cs) w:=by simp[G,stepG,unwind,doReturn,y,p,x,r,g]
 generalize stepG P true (G f (c::cs)) w=s at this |-;cases s<;>simp at this;obtain⟨rfl,rfl⟩:=this;exact⟨_,rfl⟩
end
def Env.wide(E:Env)(good:FuncId->Bool)(junk:Bool)(tab:Code):Env:={E with good:=good,free:=true,junk:=junk,tab:=tab}
theorem Zqv{E:Env} {good:FuncId->Bool} {junk:Bool} {tab:Code} (h:∀f,E.good f=true->good f=true)(c:E.junk=true->junk=true):Sub E (E.wide good junk tab):=⟨rfl,rfl,rfl,rfl,rfl,c,h,fun h=>h⟩
section
variable {E:Env} {sh:Nat->Prop}
theorem Zqw(I:E.junk=false) {S:Side} {B m:Blk} {l w l' w':World} {A:Array Event} (h:Ran E S B l w m l' w' A)(s:w.heap=l.heap)(y:∀b,S b->b<l.heap.size)(r:∀b b',B b b'->b=b'):w'.heap=l'.heap/\∀b b',m b b'->b=b':=by
 have g:∀b b',m b b'->b=b':=by
  intro b b' f;rcases h.al b b' f with x|⟨O,Q,L⟩;·exact r _ _ x
  ·rw[s]at L;omega
 refine⟨?_,g⟩;have K:w'.heap.size=l'.heap.size:=by have:=h.size.2.2;rw[s]at this;omega
 apply Zyq;intro b;by_cases f:∃b',m b b'/\¬S b;·obtain⟨b',f,v⟩:=f;obtain rfl:=g _ _ f;obtain⟨o,N,C,F,H⟩:=h.wr.obj _ _ f v;rw[C,F,H.eq I g]
 ·have f:∀b',m b b'->S b:=fun b' x=>Classical.byContradiction fun v=>f ⟨b',x,v⟩;by_cases j:b<l.heap.size
  ·rw[h.lkeep b j fun b' x=>f b' (h.le _ _ x),<-s];exact h.keep b (by rw[s];exact j) fun c x=>by have:=r _ _ x;subst this;exact f _ (h.le _ _ x)
  ·by_cases p:b<l'.heap.size;·obtain⟨b',x⟩:=h.cov b Qa p;exact absurd (y b (f b' x)) j
   ·rw[Zyx Qa,Zyx Qa]
theorem SR.retape(K:E.junk=false) {B:Blk} {s:Sem Value} {l:World} {v:Value} {t:Nat->Question->Nat} {d:Nat} (h:SR E (QV E) B s s)(hw:WR E ⟨sh,fun _=>True⟩ B l l)(g:∀b,sh b->b<l.heap.size)(C:∀b b',B b b'->b=b')(N:s.run E.P (l.re t d)=.ok v (l.re t d))(r:Nat->Question->Nat)(m:Nat):s.run E.P (l.re r m)=.ok v (l.re r m)/\∃c,B.le c/\(∀b b',c b b'->b=b')/\WR E ⟨sh,fun _=>True⟩ c l l/\VR E c v v:=by
 have y:WR E ⟨sh,fun _=>False⟩ B (l.re t d) (l.re r m):=hw.retape rfl rfl rfl fun _ _ x=>x.elim;have L:=h.both y g (by rw[N];exact fun j p F=>absurd F (ZBS.2 p));rw[N]at L;obtain⟨c,v',w',Q,p,F,f,H⟩:=L;obtain⟨O,I⟩:=Zqw K f rfl g C;have e:=VR.eq_of K I H;subst e;have A:w'=l.re r m:=by obtain⟨R,T,V,s4⟩:=f.same;have Z:=f.draws;obtain⟨wh,wt,wd,wo,wx⟩:=w';simp only[World.re]at*;subst O R T V;congr 1;omega
 rw[A]at p f;exact⟨p,c,f.le,I,f.wr.retape rfl rfl rfl fun _ _ _=>rfl,H⟩
def Ret(P:Program) (R:Value->World->Prop) (f:Frame) (cs:List Frame) (l:World):Prop:=cs=[ZG P]/\∃v t d,f.leaving P (l.re t d) (.returned v)/\R v (l.re t d)
theorem ZeG(P:Program)(R:Value->World->Prop):Halts (Ret P R):=⟨fun f cs l h=>by obtain⟨rfl,v,t,d,g,j⟩:=h;exact⟨Qd,fun c m=>by rw[g.1]at m;cases m⟩,fun f cs l t d h=>by obtain⟨r,v,s,p,g,j⟩:=h;exact⟨r,v,s,p,g,j⟩⟩
theorem Zqx(h:E.Fine)(hF:Strict E) {B:Blk} {g:FuncId} {args:Array Value} {l:World} {R:Value->World->Prop} (y:E.good g=true)(hw:WR E ⟨sh,fun _=>True⟩ B l l)(f:∀b,sh b->b<l.heap.size)(c:∀b b',B b b'->b=b')(ha:AR E B args args)(r:∀t d,Calls E.P g args (l.re t d) fun e w=>∃v,e=.returned v/\R v w):LG E (Ret E.P R) (Frame.enter E.P g args .normal) [ZG E.P] l/\Own E sh [ZG E.P] (Frame.enter E.P g args .normal) [ZG E.P] l B:=by have j:Own E sh [ZG E.P] (Frame.enter E.P g args .normal) [ZG E.P] l B:=⟨.last _ _ (ZeE h y ha) rfl,hw,f,c⟩;refine⟨Zfz (s:=⟨Frame.enter E.P g args .normal,[ZG E.P],l⟩) h hF (ZeG E.P R) ⟨⟨B,j⟩,fun t d=>?_⟩,j⟩;obtain⟨e,w',m,⟨v,rfl,p⟩,⟨n,C⟩,x,A⟩:=r t d [ZG E.P];exact⟨n,m,[ZG E.P],w',C,rfl,v,w'.tape,w'.drawn,A,p⟩
end
section
variable {E:Env} {sh:Nat->Prop} {good:FuncId->Bool} {tab:Code} {Stop':Frame->List Frame->World->Prop}
theorem Zk4(hG:E.Fine)(hF:Strict E)(K:(E.wide good false tab).Fine)(A:∀f,E.good f=true->good f=true) {B:Blk} {g:FuncId} {args:Array Value} {l:World} {R:Value->World->Prop} (hg:E.good g=true)(hw:WR E ⟨sh,fun _=>True⟩ B l l)(T:∀b,sh b->b<l.heap.size)(Q:∀b b',B b b'->b=b')(ha:AR E B args args)(hR:∀v w t d,R v w->R v (w.re t d))(hc:∀t d,Calls E.P g args (l.re t d) fun e w=>∃v,e=.returned v/\R v w)(c:Frame)(bs:List Frame)(k:∀v l' H,R v l'->B.le H->WR (E.wide good false tab) ⟨sh,fun _=>True⟩ H l' l'->(∀b,sh b->b<l'.heap.size)->(∀b b',H b b'->b=b')->VR (E.wide good false tab) H v v->LG (E.wide good false tab) Stop' (c.finish v) bs l'):LG (E.wide good false tab) Stop' (Frame.enter E.P g args .normal) (c::bs) l:=by
 have F:Sub E (E.wide good false tab):=Zqv A fun h=>by rw[hF.junk]at h;cases h
 obtain⟨hL,hO⟩:=Zqx (R:=R) hG hF hg hw T Q ha hc;have aA:=hL.sub F;have aB:Own2 (E.wide good false tab) sh (c::bs) (Frame.enter E.P g args .normal) [ZG E.P] l (Frame.enter E.P g args .normal) (c::bs) B:=⟨.last _ _ (ZeE (E:=E.wide good false tab) K (A g hg) (F.ar ha)) rfl,F.wr hw,T,Q⟩;refine Zii (bs':=c::bs) K rfl (ZeG E.P R) aA aB ?_;rintro B₁ f₁ aH V r aF ⟨rfl,v,t,d,hl,hr⟩ aD p;have s:=p.st;cases s with
 |cons f f' cs cs' hf _ hs=>cases hs with|cons _ _ _ _ _ _ h=>cases h
 |last _ _ hf hrd=>
  obtain⟨hm,hd,hk,fn,aC,O⟩:=hl;have et:f₁.tmps=r.tmps:=hf.tmps.eq (show (E.wide good false tab).junk=false from rfl) p.idn;have hA:=hf.tmps;rw[<-et]at hA;have y:=SR.retape (E:=E.wide good false tab) rfl (Zft fn hA) p.wr p.low p.idn (t:=t) (d:=d) (v:=v) O;have N:∀m j,r.leaving E.P (V.re m j) (.returned v):=by
   intro m j;refine⟨?_,?_,(by
    rcases hf.kind.2 with h|⟨h,_⟩;·exact h
    ·have C:E.dfr f₁.fn=true:=h;rw[hF.dfr]at C;cases C),fn,hf.fn▸aC,?_⟩
   ·rcases hf.mode with⟨I,C⟩|⟨I,C⟩;·rw[hm]at I;cases I
    ·exact C
   ·have:=hf.defers;rw[hd]at this;generalize r.defers=x at this |-;cases this;rfl
   ·have h:=(y m j).1;rw[<-et];exact h
  have L:∀m j,∃Z,stepG E.P true (G r (c::bs)) (V.re m j)=.go (G (c.finish v) bs) (V.re m j) Z:=fun m j=>Zk3 (N m j);refine .step _ _ _ (fun aE=>?_) (fun m j=>?_) fun m j g1 aG l1 aI s=>?_;·exfalso;have:=(N t d).1;rw[aE]at this;cases this
  ·obtain⟨Z,h⟩:=L m j;exact⟨_,_,_,_,h⟩
  ·obtain⟨Z,h⟩:=L m j;have h':stepG (E.wide good false tab).P true (G r (c::bs)) (V.re m j)=.go (G (c.finish v) bs) (V.re m j) Z:=h;rw[h']at s;simp only[GStep.go.injEq,G,Goroutine.mk.injEq,and_true]at s;obtain⟨⟨rfl,rfl⟩,rfl,_⟩:=s;obtain⟨H,I,C,h3,h4⟩:=(y m j).2;refine k v _ H ?_ (Blk.le_trans aD I) (h3.retape rfl rfl rfl fun _ _ _=>rfl) p.low C h4;have:=hR _ _ m j hr;exact this
end
end Go.Twin
namespace Go.Twin
open Go.Conc
open Go.ConcN (upd upd_ne upd_same)
variable {a:Touch} {S:Side} {B:Blk} {e:Event}
structure Node where
 sh:Nat->Prop
 bs:List Frame
 B:Blk
 f:Frame
 cs:List Frame
 l:World
 stop:Frame->List Frame->World->Prop
def AtB(a:Touch)(x:Nat):Prop:=(∃c:Addr,a.loc=.cell c/\c.block=x)∨a.loc=.obj x
def ZfA(n:Node)(a:Touch):Prop:=∀b x,n.B b x->AtB a x->n.sh b/\a.write=false
theorem Zk5{x B:Nat} {m:MemAct} (hm:m.touch?=some a)(f:m.low B)(h:AtB a x):x<B:=by cases m with
 |access e=>
  obtain⟨j,wr,p⟩:=e;simp only[MemAct.touch?,ZCa]at hm;subst hm;rcases h with⟨g,c,rfl⟩|c;·dsimp only at c;subst c;exact f
  ·dsimp only at c;subst c;exact f|mark k=>cases k<;>simp only[MemAct.touch?,ZCa,reduceCtorEq]at hm<;>subst hm;all_goals
   rcases h with⟨g,c,rfl⟩|c;·cases c;exact f
   ·cases c|_=>simp[MemAct.touch?]at hm
theorem Zqy(h:ZbL S B e)(ha:(MemAct.ofEvent e).touch?=some a):∃b x,B b x/\(∀y,AtB a y->y=x)/\AtB a x/\(a.write=true->¬S b):=by obtain⟨s,wr,v⟩:=e;cases s with
 |cell ad=>obtain⟨f,b,j,p⟩:=h;dsimp only at f;subst f;cases wr<;>simp only[MemAct.ofEvent,MemAct.touch?,ZCa]at ha<;>subst ha;all_goals
   refine⟨b,ad.block,j,?_,.inl ⟨ad,rfl,rfl⟩,p⟩;rintro y (⟨g,c,rfl⟩|c);·cases c;rfl
   ·cases c|obj r=>obtain⟨f,b,j,p⟩:=h;dsimp only at f;subst f;cases wr<;>simp only[MemAct.ofEvent,MemAct.touch?,ZCa]at ha<;>subst ha;all_goals
   refine⟨b,r,j,?_,.inr rfl,fun _=>p⟩;rintro y (⟨g,c,rfl⟩|c);·cases c
   ·cases c;rfl|mark m=>cases m<;>first|exact absurd h id|(simp[MemAct.ofEvent,MemAct.touch?]at ha)
 |output=>exact h.elim|goroutines=>exact h.elim
theorem Zqz{bnd:Nat} (j:∀b x,B b x->x<bnd)(h:ZbL S B e):(MemAct.ofEvent e).low bnd:=by obtain⟨g,wr,s⟩:=e;cases g with
 |cell ad=>obtain⟨c,b,f,p⟩:=h;dsimp only at c;subst c;cases wr<;>exact j _ _ f|obj r=>obtain⟨c,b,f,p⟩:=h;dsimp only at c;subst c;cases wr<;>exact j _ _ f|mark m=>cases m<;>first|exact absurd h id|trivial
 |output=>exact h.elim|goroutines=>exact h.elim
theorem ZqA(h:ZbL S B e):e.loc≠.mark .disable/\e.loc≠.mark .enable:=by obtain⟨c,wr,f⟩:=e;constructor<;>rintro rfl<;>exact h
structure Tr (M:Nat->Option Node)(S:Nat->Option Nat)(bnd:Nat)(t:Trace):Prop where
 clean:∀said,¬Race said t
 seen:∀op∈t,op.act.low bnd
 known:∀i a,touchAt t i=some a->a.loc.isMemory=true->∀j n,M j=some n->Knows t j i∨ZfA n a
 hand:∀i a,touchAt t i=some a->a.loc.isMemory=true->Knows t 0 i∨(∃k n,M k=some n/\Knows t k i)∨∃k p,S k=some p/\Before t i p
section
variable {M:Nat->Option Node} {S:Nat->Option Nat} {bnd bnd':Nat} {t u:Trace}
theorem Tr.mono(h:Tr M S bnd t)(hb:bnd<=bnd'):Tr M S bnd' t:=⟨h.clean,fun f c=>MemAct.low_mono hb (h.seen f c),h.known,h.hand⟩
theorem Tr.mute(h:Tr M S bnd t) {g:Nat} (hu:∀f∈u,f.g=g)(K:∀f∈u,f.act.touch?=none)(N:∀f∈u,f.act.low bnd):Tr M S bnd (t++u):=by
 have r:∀i a,touchAt (t++u) i=some a->touchAt t i=some a:=by
  intro i a m;obtain⟨x,O,c⟩:=touch_of m;rcases getElem?_append_cases O with⟨_,F⟩|⟨_,H⟩;·rw[touchAt_of F];exact c
  ·rw[K x H]at c;cases c
 refine⟨fun s=>noRace_append (h.clean s) hu fun i a _ f C b I _=>(by rw[K f C]at I;cases I),seen_app h.seen N,fun i a m A j n L=>?_,fun i a m A=>?_⟩;·exact(h.known i a (r i a m) A j n L).imp (·.app u) id
 ·rcases h.hand i a (r i a m) A with x|⟨k,n,v,y⟩|⟨k,p,v,y⟩;·exact .inl (x.app u)
  ·exact .inr (.inl ⟨k,n,v,y.app u⟩)
  ·exact .inr (.inr ⟨k,p,v,y.app u⟩)
theorem ZgD{i:Nat} {a:Touch} (h:touchAt t i=some a):∃f,t[i]?=some f/\f.act.touch?=some a/\f∈t:=by obtain⟨x,g,c⟩:=touch_of h;exact⟨x,g,c,Go.Conc.mem_of_getElem? g⟩
theorem Tr.own{i:Nat} {n n':Node} (h:Tr M S bnd t)(hi:M i=some n)(aN:n.B.le n'.B)(aL:n'.sh=n.sh)(al:∀b x,n'.B b x->n.B b x∨bnd<=x)(aA:∀b x,n'.B b x->x<bnd')(hb:bnd<=bnd')(H:∀j m b c x,j≠i->M j=some m->n.B b x->m.B c x->n.sh b/\m.sh c)(aB:∀j m c x,M j=some m->m.B c x->x<bnd) {fn:FuncId} {pos:String} {es:Array Event} (aE:∀e∈es,ZbL ⟨n.sh,fun _=>True⟩ n'.B e):Tr (upd M i (some n')) S bnd' (t++MemOp.ofEvents i fn pos es):=by
 have hu:∀F∈MemOp.ofEvents i fn pos es,F.g=i:=fun F r=>by obtain⟨e,_,rfl⟩:=Go.Conc.mem_ofEvents r;rfl
 have ev:∀F∈MemOp.ofEvents i fn pos es,∀b,F.act.touch?=some b->∃c x,n'.B c x/\(∀y,AtB b y->y=x)/\AtB b x/\(b.write=true->¬n.sh c):=by intro F r b hb;obtain⟨e,he,rfl⟩:=Go.Conc.mem_ofEvents r;exact Zqy (aE e he) hb
 refine⟨fun aI=>noRace_append (h.clean aI) hu fun k a T F r b aK hc=>?_,seen_app (h.mono hb).seen fun F r=>?_,fun k a T hm j m N=>?_,fun k a T hm=>?_⟩
 ·obtain⟨aF,aG,aM,_⟩:=hc;rcases h.known k a T aG i n hi with hk|hf;·exact hk
  ·exfalso;obtain⟨c,x,I,K,h3,h4⟩:=ev F r b aK;have aC:AtB a x:=by unfold AtB at h3 |-;rw[aF];exact h3
   obtain⟨R,aH,O,L⟩:=ZgD T;have Z:=Zk5 O (h.seen R L) aC;rcases al c x I with C|C
   ·obtain⟨h6,h7⟩:=hf c x C aC;rcases aM with V|V;·rw[h7]at V;cases V
    ·exact h4 V h6
   ·omega
 ·obtain⟨e,he,rfl⟩:=Go.Conc.mem_ofEvents r;exact Zqz aA (aE e he)
 ·obtain⟨x,Z,v⟩:=touch_of T;rcases getElem?_append_cases Z with⟨_,Q⟩|⟨_,A⟩
  ·have s:touchAt t k=some a:=by rw[touchAt_of Q];exact v
   by_cases f:j=i
   ·subst f;rw[upd_same]at N;cases N;refine(h.known k a s hm j n hi).imp (·.app _) fun hf b y hy aD=>?_;rcases al b y hy with C|C;·rw[aL];exact hf b y C aD
    ·obtain⟨R,aH,O,L⟩:=ZgD s;have:=Zk5 O (h.seen R L) aD;omega
   ·rw[upd_ne _ _ f]at N;exact(h.known k a s hm j m N).imp (·.app _) id
  ·by_cases f:j=i;·subst f;exact .inl (by have:=knows_own Z;rw[hu x A]at this;exact this)
   ·rw[upd_ne _ _ f]at N;obtain⟨c,y,I,K,h3,h4⟩:=ev x A a v;refine .inr fun b z hz aJ=>?_;obtain rfl:=K z aJ;rcases al c z I with C|C;·obtain⟨h6,h7⟩:=H j m c b z f N C hz;refine⟨h7,?_⟩;cases V:a.write with|false=>rfl|true=>exact absurd h6 (h4 V)
    ·have:=aB j m b z N hz;omega
 ·obtain⟨x,Z,v⟩:=touch_of T;rcases getElem?_append_cases Z with⟨_,Q⟩|⟨_,A⟩
  ·have s:touchAt t k=some a:=by rw[touchAt_of Q];exact v
   rcases h.hand k a s hm with y|⟨j,m,I,K⟩|⟨j,p,I,K⟩;·exact .inl (y.app _)
   ·refine .inr (.inl ?_);by_cases f:j=i;·exact⟨i,n',upd_same _ _ _,f▸K.app _⟩
    ·exact⟨j,m,by rw[upd_ne _ _ f];exact I,K.app _⟩
   ·exact .inr (.inr ⟨j,p,I,K.app _⟩)
  ·exact .inr (.inl ⟨i,n',upd_same _ _ _,by have:=knows_own Z;rw[hu x A]at this;exact this⟩)
end
structure Job where
 ch:Nat
 V:Value->Prop
 bs:List Frame
 stop:Frame->List Frame->World->Prop
inductive Zs|run|park (c:Nat)(zz:Value)
def ZbP(z:Zs)(i:Nat)(fa:Frame)(ca:List Frame):Goroutine:=match i,z with|0,.park c zz=>parked (G fa ca) #[rcase c zz] (.recv false)|_,_=>G fa ca
def ZfB(P:Program)(z:Zs)(n:Nat)(i:Nat)(fa:Frame)(ca:List Frame)(g:Goroutine):Prop:=(n=0/\g=ZbP z i fa ca)∨(0<i/\n=1/\g.status=.running/\∀w,stepG P false g w=.go (G fa ca) w #[])
structure Co (E:Env)(W0:World)(J:Nat->Option Job)(z:Zs)(M:Nat->Option Node)(S:Nat->Option Nat)(gs:Array Goroutine)(w:World)(t:Trace)(q:Nat->Nat):Prop where
 live:∀i n,M i=some n->∃fa ca g,gs[i]?=some g/\ZfB E.P z (q i) i fa ca g/\Rel E n.sh n.bs n.B n.f n.cs n.l fa ca w
 old:∀i g,0<i->M i=none->gs[i]?=some g->QuitsD E.P (q i) (Deaf t i) g
 deaf:∀i,(M i≠none∨gs.size<=i)->Deaf t i=0
 zero:M 0≠none
 apart:∀i j n m b c x,i≠j->M i=some n->M j=some m->n.B b x->m.B c x->n.sh b/\m.sh c
 tr:Tr M S w.heap.size t
 chanM:∀k j n,J k=some j->M k=some n->w.heap[j.ch]?=some (.chan 1 #[] false 0 0 false)
 chanS:∀k j p,J k=some j->S k=some p->∃v,j.V v/\w.heap[j.ch]?=some (.chan 1 #[v] false 1 0 false)/\(∃op,t[p]?=some op/\op.act=.send j.ch 0)/\t.heard p
 job:∀k,0<k->(M k≠none∨S k≠none)->∃j,J k=some j
 one:∀k k' j j',J k=some j->J k'=some j'->j.ch=j'.ch->k=k'
 fresh:∀k j,J k=some j->W0.heap.size<=j.ch
 excl:∀k p,S k=some p->M k=none/\0<k
 wait:∀c zz,z=.park c zz->∃k j n,0<k/\J k=some j/\j.ch=c/\M k=some n
 stops:∀k j n,0<k->J k=some j->M k=some n->n.stop=j.stop/\n.bs=j.bs
 base:∀i n b x,M i=some n->n.B b x->x<W0.heap.size->n.sh b
 keep:W0.heap.size<=w.heap.size/\∀x,x<W0.heap.size->w.heap[x]?=W0.heap[x]?
 same:w.os=W0.os/\w.output=W0.output/\w.tape=W0.tape
section
variable {E:Env} {W0:World} {J:Nat->Option Job} {z:Zs} {M:Nat->Option Node} {S:Nat->Option Nat} {gs:Array Goroutine} {w w':World} {t:Trace} {q:Nat->Nat} {sl:Option (Nat×Nat)}
theorem Zc8{sh:Nat->Prop} {bs:List Frame} {B:Blk} {f fa:Frame} {cs ca:List Frame} {l:World} (h:Rel E sh bs B f cs l fa ca w) {b x:Nat} (hb:B b x):x<w.heap.size/\∀cap g m s r y,w.heap[x]?≠some (.chan cap g m s r y):=by
 refine⟨(h.wr.dom _ _ hb).2,fun cap g m s r y p=>?_⟩;by_cases v:sh b;·obtain⟨c,F,T,f,A,j,_⟩:=h.wr.shr b x hb v;rw[p]at j;cases j
 ·obtain⟨o,H,A,j,C⟩:=h.wr.obj b x hb v;rw[p]at j;cases j;cases C
theorem Zc9(r:E.sh=true) {sh:Nat->Prop} {bs:List Frame} {B:Blk} {f fa:Frame} {cs ca:List Frame} {l:World} (h:Rel E sh bs B f cs l fa ca w)(p:w.heap.size<=w'.heap.size)(hk:∀b x,B b x->w'.heap[x]?=w.heap[x]?):Rel E sh bs B f cs l fa ca w':=by
 obtain⟨s,c,v⟩:=h;refine⟨s,⟨c.fn,c.inj,fun b g j=>⟨(c.dom b g j).1,ZBJ (c.dom b g j).2 p⟩,fun b g j m=>?_,fun b g j m=>?_,fun _ _ x=>x.elim,c.glob,c.low,⟨c.gsz.1,ZBG c.gsz.2 p⟩,fun m=>?_,c.dark⟩,v⟩;·rw[hk b g j];exact c.obj b g j m
 ·rw[hk b g j];exact c.shr b g j m
 ·rw[r]at m;cases m
theorem Co.at_(h:Co E W0 J z M S gs w t q)(d:Nat):Co E W0 J z M S gs (w.at d) t q:=⟨fun i n m=>let ⟨fa,ca,g,c,j,f⟩:=h.live i n m;⟨fa,ca,g,c,j,f.at_ d⟩,h.old,h.deaf,h.zero,h.apart,h.tr,h.chanM,h.chanS,h.job,h.one,h.fresh,h.excl,h.wait,h.stops,h.base,h.keep,h.same⟩
theorem Zij{i:Nat} (hi:0<i)(fa:Frame)(ca:List Frame):ZbP z i fa ca=G fa ca:=by cases i with|zero=>omega|succ i=>rfl
theorem Co.chan_free(h:Co E W0 J z M S gs w t q) {i:Nat} {n:Node} (hi:M i=some n) {c cap s r:Nat} {f:Array Value} {g v:Bool} (m:w.heap[c]?=some (.chan cap f g s r v))(b:Nat):¬n.B b c:=by intro j;obtain⟨fa,ca,_,_,_,p⟩:=h.live i n hi;exact(Zc8 p j).2 _ _ _ _ _ _ m
theorem ZqB{P:Program} {g g':Goroutine} {i:Nat} {fa:Frame} {ca:List Frame} (hz:∀c zz,z=.park c zz->∃h f s r j,w'.heap[c]?=some (.chan h f false s r j)):woken P g g' w' (ZbP z i fa ca)=ZbP z i fa ca:=by
 unfold ZbP;split;·rename_i c zz;obtain⟨h,f,s,r,j,m⟩:=hz c zz rfl;exact woken_recv_open _ _ m
 ·exact woken_run rfl
theorem ZfB.woken{P:Program} {g g':Goroutine} {n i:Nat} {fa:Frame} {ca:List Frame} {x:Goroutine} (h:ZfB P z n i fa ca x)(hz:∀c zz,z=.park c zz->∃j f s r m,w'.heap[c]?=some (.chan j f false s r m)):Go.Conc.woken P g g' w' x=x:=by
 rcases h with⟨_,rfl⟩|⟨_,_,h,_⟩;·exact ZqB hz
 ·exact woken_run h
theorem Zdt{P:Program} {g g' x:Goroutine} {i j:Nat} (c:j≠i):((gs.map (woken P g x w')).setIfInBounds i g')[j]?=(gs[j]?).map (woken P g x w'):=by rw[ZyG (fun e=>c e.symm),Zyz]
theorem Co.go(aS:E.sh=true)(h:Co E W0 J z M S gs w t q) {i:Nat} {n:Node} (hi:M i=some n)(hz:i=0->z=.run)(aQ:q i=0) {fa K:Frame} {ca H:List Frame} (aN:gs[i]?=some (G fa ca)) {Z:Blk} {f':Frame} {I:List Frame} {l':World} (hR:Rel E n.sh n.bs Z f' I l' K H w')(hW:Went n.sh n.B n.l w Z l' w')(aU:w'.tape=w.tape) {es:Array Event} (aK:∀e∈es,ZbL ⟨n.sh,fun _=>True⟩ Z e)(aW:Rel E n.sh n.bs n.B n.f n.cs n.l fa ca w):Co E W0 J z (upd M i (some {n with B:=Z,f:=f',cs:=I,l:=l'})) S ((gs.map (woken E.P (G fa ca) (G K H) w')).setIfInBounds i (G K H)) w' (t++MemOp.ofEvents i fa.fn fa.place es) q:=by
 have aO:i<gs.size:=(Zyy.1 aN).1;have hu:∀op∈MemOp.ofEvents i fa.fn fa.place es,op.g=i:=fun op aP=>by obtain⟨e,_,rfl⟩:=Go.Conc.mem_ofEvents aP;rfl
 have aG:∀x,x<w.heap.size->(∀b,n.B b x->n.sh b)->w'.heap[x]?=w.heap[x]?:=hW.keep;have aI:∀{x:Nat} {o:Obj},w.heap[x]?=some o->x<w.heap.size:=fun h=>(Zyy.1 h).1;have aB:∀{c cap s r:Nat} {O:Array Value} {cl tm:Bool},w.heap[c]?=some (.chan cap O cl s r tm)->w'.heap[c]?=some (.chan cap O cl s r tm):=by intro c cap s r O cl tm L;rw[aG c (aI L) fun b F=>absurd F (h.chan_free hi L b),L]
 have aA:∀b x,Z b x->n.B b x∨w.heap.size<=x:=fun b x F=>(hW.al b x F).imp id fun y=>y.2.1;have aT:((gs.map (woken E.P (G fa ca) (G K H) w')).setIfInBounds i (G K H)).size=gs.size:=Qd
 have aD:∀j m,j≠i->M j=some m->∀b x,m.B b x->w'.heap[x]?=w.heap[x]?:=by intro j m A C b x F;obtain⟨fj,cj,_,_,_,V⟩:=h.live j m C;exact aG x (Zc8 V F).1 fun c L=>(h.apart i j n m c b x (fun e=>A e.symm) hi C L F).1
 have hM:∀j m,upd M i (some {n with B:=Z,f:=f',cs:=I,l:=l'}) j=some m->(j=i/\m={n with B:=Z,f:=f',cs:=I,l:=l'})∨(j≠i/\M j=some m):=by
  intro j m C;by_cases A:j=i;·subst A;rw[upd_same]at C;exact .inl ⟨rfl,(ZB9 C).symm⟩
  ·rw[upd_ne _ _ A]at C;exact .inr ⟨A,C⟩
 have aM:∀j,upd M i (some {n with B:=Z,f:=f',cs:=I,l:=l'}) j=none->j≠i/\M j=none:=by
  intro j C;by_cases A:j=i;·subst A;rw[upd_same]at C;cases C
  ·rw[upd_ne _ _ A]at C;exact⟨A,C⟩
 have aJ:∀j,upd M i (some {n with B:=Z,f:=f',cs:=I,l:=l'}) j≠none->M j≠none:=by
  intro j C;by_cases A:j=i;·subst A;rw[hi];simp
  ·rwa [upd_ne _ _ A]at C
 have aV:∀c zz,z=.park c zz->∃cap O s r tm,w'.heap[c]?=some (.chan cap O false s r tm):=by intro c zz aH;obtain⟨k,j,m,Q,h2,rfl,h4⟩:=h.wait c zz aH;exact⟨_,_,_,_,_,aB (h.chanM k j m h2 h4)⟩
 refine⟨fun j m C=>?_,fun j x C N hx=>?_,fun j C=>?_,?_,fun j k m m' b c x aC C R F L=>?_,?_,fun k j m R N=>?_,fun k j p R hp=>?_,fun k R N=>?_,h.one,h.fresh,fun k p hp=>?_,fun c zz aH=>?_,fun k j m R C N=>?_,fun j m b x C F hx=>?_,?_,⟨hW.same.1.trans h.same.1,hW.same.2.trans h.same.2.1,aU.trans h.same.2.2⟩⟩
 ·rcases hM j m C with⟨rfl,rfl⟩|⟨A,C⟩
  ·refine⟨K,H,G K H,?_,.inl ⟨aQ,?_⟩,hR⟩;·rw[ZyH (by simpa using aO)]
   ·unfold ZbP;split;·rename_i c zz;cases hz rfl
    ·rfl
  ·obtain⟨fj,cj,x,Q,h3,h2⟩:=h.live j m C;refine⟨fj,cj,x,?_,h3,Zc9 aS h2 hW.size.1 (aD j m A C)⟩;rw[Zdt A,Q,ZB8,h3.woken aV]
 ·obtain⟨A,N⟩:=aM j N;rw[Zdt A]at hx;obtain⟨y,hy,rfl⟩:=ZB7.1 hx;have hq:=h.old j y C N hy;rw[woken_quitsD hq,Deaf_other t (fun e=>A e.symm) _ hu];exact hq
 ·have h0:=h.deaf j (C.imp (aJ j) fun x=>by rwa [aT]at x);by_cases A:j=i;·subst A;rw[Deaf_own,h0];exact deafBehind_still (fun e he=>ZqA (aK e he)) _
  ·rw[Deaf_other t (fun e=>A e.symm) _ hu];exact h0
 ·by_cases h0:0=i;·subst h0;rw[upd_same];simp
  ·rw[upd_ne _ _ h0];exact h.zero
 ·rcases hM j m C with⟨e1,rfl⟩|⟨A,aE⟩<;>rcases hM k m' R with⟨e2,rfl⟩|⟨T,aF⟩;·exact absurd (e1.trans e2.symm) aC
  ·subst e1;obtain⟨fk,ck,_,_,_,aR⟩:=h.live k m' aF;rcases aA b x F with h5|h5;·exact h.apart j k n m' b c x aC hi aF h5 L
   ·have:=(Zc8 aR L).1;omega
  ·subst e2;obtain⟨fj,cj,_,_,_,V⟩:=h.live j m aE;rcases aA c x L with h5|h5;·exact h.apart j k m n b c x aC aE hi F h5
   ·have:=(Zc8 V F).1;omega
  ·exact h.apart j k m m' b c x aC aE aF F L
 ·refine h.tr.own (n':={n with B:=Z,f:=f',cs:=I,l:=l'}) hi hW.le rfl aA (fun b x F=>(Zc8 hR F).1) hW.size.1 (fun j m b c x A C F L=>h.apart i j n m b c x (fun e=>A e.symm) hi C F L) (fun j m c x C L=>?_) aK;obtain⟨fj,cj,_,_,_,V⟩:=h.live j m C;exact(Zc8 V L).1
 ·rcases hM k m N with⟨rfl,rfl⟩|⟨T,N⟩;·exact aB (h.chanM k j n R hi)
  ·exact aB (h.chanM k j m R N)
 ·obtain⟨v,Q,h2,⟨op,h3,h4⟩,h5⟩:=h.chanS k j p R hp;have aL:=lt_size_of_getElem? h3;exact⟨v,Q,aB h2,⟨op,by rw[getElem?_append_old aL];exact h3,h4⟩,(heard_old aL).2 h5⟩
 ·exact h.job k R (N.imp (aJ k) id)
 ·obtain⟨Q,h2⟩:=h.excl k p hp;refine⟨?_,h2⟩;have:k≠i:=by rintro rfl;rw[hi]at Q;cases Q
  rw[upd_ne _ _ this];exact Q
 ·obtain⟨k,j,m,Q,h2,h3,h4⟩:=h.wait c zz aH;by_cases T:k=i;·exact⟨k,j,_,Q,h2,h3,by rw[T,upd_same]⟩
  ·exact⟨k,j,m,Q,h2,h3,by rw[upd_ne _ _ T];exact h4⟩
 ·rcases hM k m N with⟨rfl,rfl⟩|⟨T,N⟩;·exact h.stops k j n R C hi
  ·exact h.stops k j m R C N
 ·rcases hM j m C with⟨rfl,rfl⟩|⟨A,C⟩
  ·rcases aA b x F with h5|h5;·exact h.base j n b x hi h5 hx
   ·have:=h.keep.1;omega
  ·exact h.base j m b x C F hx
 ·refine⟨ZBG h.keep.1 hW.size.1,fun x hx=>?_⟩;rw[aG x (ZBJ hx h.keep.1) fun b F=>h.base i n b x hi F hx];exact h.keep.2 x hx
theorem Co.leaver(h:Co E W0 J z M S gs w t q) {i k:Nat} {g g':Goroutine} (aE:0<i)(hm:M i=none)(hg:gs[i]?=some g) {es:Array Event} (K:∀e∈es,e.mute=true)(hq:QuitsD E.P k (deafBehind (Deaf t i) es) g'):Co E W0 J z M S ((gs.map (woken E.P g g' w)).setIfInBounds i g') w (t++MemOp.ofEvents i g.frame.fn g.frame.place es) (upd q i k):=by
 have aA:i<gs.size:=(Zyy.1 hg).1;have hu:∀F∈MemOp.ofEvents i g.frame.fn g.frame.place es,F.g=i:=fun F C=>by obtain⟨e,_,rfl⟩:=Go.Conc.mem_ofEvents C;rfl
 have Q:((gs.map (woken E.P g g' w)).setIfInBounds i g').size=gs.size:=Qd
 have aC:∀c zz,z=.park c zz->∃Z V s r tm,w.heap[c]?=some (.chan Z V false s r tm):=by intro c zz aD;obtain⟨k,j,m,R,H,rfl,h4⟩:=h.wait c zz aD;exact⟨_,_,_,_,_,h.chanM k j m H h4⟩
 have L:∀j,M j≠none->j≠i:=by rintro j A rfl;exact A hm
 refine⟨fun j m A=>?_,fun j x A aB T=>?_,fun j A=>?_,h.zero,h.apart,?_,h.chanM,fun k j p hk hp=>?_,h.job,h.one,h.fresh,h.excl,h.wait,h.stops,h.base,h.keep,h.same⟩;·obtain⟨fj,cj,x,R,I,H⟩:=h.live j m A;have f:=L j (by rw[A];simp);refine⟨fj,cj,x,?_,by rw[upd_ne _ _ f];exact I,H⟩;rw[Zdt f,R,ZB8,I.woken aC]
 ·by_cases f:j=i;·subst f;rw[ZyH (by simpa using aA)]at T;obtain rfl:=ZB9 T;rw[upd_same,Deaf_own];exact hq
  ·rw[Zdt f]at T;obtain⟨y,hy,rfl⟩:=ZB7.1 T;have O:=h.old j y A aB hy;rw[woken_quitsD O,upd_ne q k f,Deaf_other t (fun e=>f e.symm) _ hu];exact O
 ·have f:j≠i:=by
   rcases A with A|A;·exact L j A
   ·rw[Q]at A;omega
  rw[Deaf_other t (fun e=>f e.symm) _ hu];exact h.deaf j (A.imp id fun x=>by rwa [Q]at x)
 ·refine h.tr.mute hu (fun F C=>?_) fun F C=>?_;·obtain⟨e,he,rfl⟩:=Go.Conc.mem_ofEvents C;exact touch_mute (K e he)
  ·obtain⟨e,he,rfl⟩:=Go.Conc.mem_ofEvents C;exact low_mute (K e he) _
 ·obtain⟨v,R,H,⟨F,I,h4⟩,h5⟩:=h.chanS k j p hk hp;have N:=lt_size_of_getElem? I;exact⟨v,R,H,⟨F,by rw[getElem?_append_old N];exact I,h4⟩,(heard_old N).2 h5⟩
theorem Co.born(h:Co E W0 J z M S gs w t q) {i:Nat} {n:Node} {g:Goroutine} {fa:Frame} {ca:List Frame} (C:0<i)(hi:M i=some n)(hg:gs[i]?=some g)(hR:Rel E n.sh n.bs n.B n.f n.cs n.l fa ca w):Co E W0 J z M S ((gs.map (woken E.P g (G fa ca) w)).setIfInBounds i (G fa ca)) w t (upd q i 0):=by
 have L:i<gs.size:=(Zyy.1 hg).1;have N:((gs.map (woken E.P g (G fa ca) w)).setIfInBounds i (G fa ca)).size=gs.size:=Qd
 have O:∀c zz,z=.park c zz->∃I H s r tm,w.heap[c]?=some (.chan I H false s r tm):=by intro c zz Q;obtain⟨k,j,m,R,K,rfl,h4⟩:=h.wait c zz Q;exact⟨_,_,_,_,_,h.chanM k j m K h4⟩
 refine⟨fun j m v=>?_,fun j x v A V=>?_,fun j v=>?_,h.zero,h.apart,h.tr,h.chanM,h.chanS,h.job,h.one,h.fresh,h.excl,h.wait,h.stops,h.base,h.keep,h.same⟩
 ·by_cases p:j=i;·subst p;rw[hi]at v;cases v;refine⟨fa,ca,G fa ca,by rw[ZyH (by simpa using L)],.inl ⟨upd_same _ _ _,(Zij C _ _).symm⟩,hR⟩
  ·obtain⟨fj,Z,x,R,T,K⟩:=h.live j m v;refine⟨fj,Z,x,?_,by rw[upd_ne _ _ p];exact T,K⟩;rw[Zdt p,R,ZB8,T.woken O]
 ·have p:j≠i:=by rintro rfl;rw[hi]at A;cases A
  rw[Zdt p]at V;obtain⟨y,hy,rfl⟩:=ZB7.1 V;have F:=h.old j y v A hy;rw[woken_quitsD F,upd_ne q 0 p];exact F
 ·exact h.deaf j (v.imp id fun x=>by rwa [N]at x)
end
section
variable {E:Env} {W0:World} {J:Nat->Option Job} {z:Zs} {M:Nat->Option Node} {S:Nat->Option Nat} {gs:Array Goroutine} {w w':World} {t u:Trace} {q:Nat->Nat} {sl:Option (Nat×Nat)}
theorem ZbD{c cap s r:Nat} {f:Array Value} {g h:Bool} {x:Nat} (hx:x≠c):(w.setChan c cap f g s r h).heap[x]?=w.heap[x]?:=by simp[World.setChan,ZyG (fun e:c=x=>hx e.symm)]
theorem ZqC{c cap s r:Nat} {f:Array Value} {g h:Bool} {o:Obj} (j:w.heap[c]?=some o):(w.setChan c cap f g s r h).heap[c]?=some (.chan cap f g s r h):=by have:=(Zyy.1 j).1;simp[World.setChan,this]
theorem ZbE{α:Type} {f:Nat->Option α} {k j:Nat} {n:α} (h:upd f k none j=some n):j≠k/\f j=some n:=by
 by_cases e:j=k;·subst e;rw[upd_same]at h;cases h
 ·rw[upd_ne _ _ e]at h;exact⟨e,h⟩
theorem Co.status(h:Co E W0 J z M S gs w t q) {i:Nat} {g:Goroutine} (r:gs[i]?=some g):g.status=.running∨g.status=.finished∨(i=0/\∃c f fa ca,z=.park c f/\g=parked (G fa ca) #[rcase c f] (.recv false)):=by cases m:M i with
 |none=>have s:0<i:=ZBU fun e=>h.zero (e▸m);exact(h.old i g s m r).status.imp id .inl|some n=>
  obtain⟨fa,ca,x,p,j,_⟩:=h.live i n m;rw[r]at p;obtain rfl:=ZB9 p;rcases j with⟨_,rfl⟩|⟨_,_,j,_⟩;case inr=>exact .inl j
  unfold ZbP;split;·rename_i c f _;exact .inr (.inr ⟨rfl,c,f,fa,ca,rfl,rfl⟩)
  ·exact .inl rfl
theorem Co.offers(h:Co E W0 J z M S gs w t q)(k:Nat) {c:Nat} (p:∀zz,z≠.park c zz):partners (gs.setIfInBounds k ph) c false=[]:=by
 refine partners_nil fun j g m=>?_;rcases getElem?_stand gs k j g m with⟨rfl,rfl⟩|⟨r,m⟩;·rfl
 ·rcases h.status m with f|f|⟨_,v,zz,fa,ca,s,rfl⟩;·exact offersAt_of_not_blocked (by rw[f];simp) _ _
  ·exact offersAt_of_not_blocked (by rw[f];simp) _ _
  ·rw[offersAt_parked_recv,if_neg];rintro rfl;exact p zz s
theorem Zd2(g:Nat)(fn:FuncId)(pos:String):MemOp.ofEvents g fn pos #[]=#[]:=by rw[ofEvents_eq];simp
theorem Zk6{i g:Nat} {y:MemOp} (h:Knows t g i)(c:y.g=g)(hu:u[0]?=some y):Before (t++u) i t.size:=.inr (h.hb_new (ZBF _) (by rw[Array.getElem?_append_right (ZBF _)];simpa using hu) c)
theorem Zd3{i:Nat} {y:MemOp} (h:u[i]?=some y):(t++u)[t.size+i]?=some y:=by rw[Array.getElem?_append_right (ZBD _ _)];simpa using h
theorem Zd4(t:Trace)(g:Nat)(u:Trace)(h:∀f∈u,f.act≠.mark .disable/\f.act≠.mark .enable):Deaf (t++u) g=Deaf t g:=by obtain⟨l⟩:=u;rw[Deaf_append];generalize Deaf t g=d;induction l generalizing d with
 |nil=>rfl|cons y l ih=>
  rw[List.foldl_cons];have e:deafStep g d y=d:=by
   obtain⟨m,p⟩:=h y Qd;unfold deafStep;split;·rename_i j;exact absurd j m
   ·rename_i j;exact absurd j p
   ·rfl
  rw[e];exact ih (fun f c=>h f (by simp at c |-;exact .inr c)) d
theorem Co.send(aM:E.sh=true)(h:Co E W0 J z M S gs w t q) {k m:Nat} {n:Node} {j:Job} (aJ:0<k)(R:M k=some n)(L:J k=some j)(hz:∀zz,z≠.park j.ch zz) {v:Value} (hv:j.V v) {g₂:Goroutine} (hq:QuitsD E.P m 0 (Go.Conc.served g₂ undef)) {fn:FuncId} {pos:String}:Co E W0 J z (upd M k none) (upd S k (some t.size)) (gs.setIfInBounds k (Go.Conc.served g₂ undef)) (w.setChan j.ch 1 #[v] false 1 0 false) (t++#[{g:=k,fn,pos,act:=.send j.ch 0},{g:=k,fn,pos,act:=.sendDone j.ch 0}]) (upd q k m):=by
 have hc:=h.chanM k j n L R;have aA:j.ch<w.heap.size:=(Zyy.1 hc).1;have hu:∀C∈(#[{g:=k,fn,pos,act:=.send j.ch 0},{g:=k,fn,pos,act:=.sendDone j.ch 0}]:Trace),C.g=k:=Qd
 have hn:∀C∈(#[{g:=k,fn,pos,act:=.send j.ch 0},{g:=k,fn,pos,act:=.sendDone j.ch 0}]:Trace),C.act.touch?=none:=by simp[MemAct.touch?]
 have hl:∀C∈(#[{g:=k,fn,pos,act:=.send j.ch 0},{g:=k,fn,pos,act:=.sendDone j.ch 0}]:Trace),C.act.low w.heap.size:=by simp[MemAct.low,aA]
 have aC:∀C∈(#[{g:=k,fn,pos,act:=.send j.ch 0},{g:=k,fn,pos,act:=.sendDone j.ch 0}]:Trace),C.act≠.mark .disable/\C.act≠.mark .enable:=Qd
 have h0:(#[{g:=k,fn,pos,act:=.send j.ch 0},{g:=k,fn,pos,act:=.sendDone j.ch 0}]:Trace)[0]?=some {g:=k,fn,pos,act:=.send j.ch 0}:=rfl;generalize (#[{g:=k,fn,pos,act:=.send j.ch 0},{g:=k,fn,pos,act:=.sendDone j.ch 0}]:Trace)=u at hu hn hl aC h0 |-;obtain⟨fk,ck,gk,aH,aP,aO⟩:=h.live k n R;have aK:k<gs.size:=(Zyy.1 aH).1;have hd:Deaf t k=0:=h.deaf k (.inl (by rw[R];simp));have aB:∀{i:Nat} {m:Node} {b x:Nat},M i=some m->m.B b x->x≠j.ch:=by intro i m b x r Z e;exact h.chan_free r hc b (e▸Z)
 have aN:=h.fresh k j L;have hT:=h.tr.mute hu hn hl;have F:(w.setChan j.ch 1 #[v] false 1 0 false).heap.size=w.heap.size:=by simp[World.setChan]
 refine⟨fun i m r=>?_,fun i x r s I=>?_,fun i r=>?_,?_,fun a b m m' c d x aG T Z=>h.apart a b m m' c d x aG (ZbE T).2 (ZbE Z).2,⟨hT.clean,by rw[F];exact hT.seen,fun i a T s x m I=>hT.known i a T s x m (ZbE I).2,fun i a T s=>?_⟩,fun i H m r s=>?_,fun i H p r N=>?_,fun i r s=>?_,h.one,h.fresh,fun i p N=>?_,fun c zz aF=>?_,fun i H m r aI s=>h.stops i H m r aI (ZbE s).2,fun i m b x s=>h.base i m b x (ZbE s).2,?_,h.same⟩;·obtain⟨f,r⟩:=ZbE r;obtain⟨fi,ci,x,A,K,y⟩:=h.live i m r;exact⟨fi,ci,x,by rw[ZyG (fun e=>f e.symm)];exact A,by rw[upd_ne _ _ f];exact K,Zc9 aM y (by rw[F];exact ZBF _) fun b x Z=>ZbD (aB r Z)⟩
 ·by_cases f:i=k
  ·subst f;rw[ZyH aK]at I;obtain rfl:=ZB9 I;have e:Deaf (t++u) i=0:=by rw[Zd4 t i u aC];exact hd
   rw[upd_same,e];exact hq
  ·rw[ZyG (fun e=>f e.symm)]at I;rw[upd_ne _ _ f]at s;have:=h.old i x r s I;rw[upd_ne _ _ f,Deaf_other t (fun e=>f e.symm) _ hu];exact this
 ·have f:i≠k:=by
   rintro rfl;rcases r with r|r;·rw[upd_same]at r;exact r rfl
   ·simp at r;omega
  rw[Deaf_other t (fun e=>f e.symm) _ hu];refine h.deaf i (r.imp (fun x=>?_) fun x=>by simpa using x);rwa [upd_ne _ _ f]at x
 ·rw[upd_ne _ _ Qa];exact h.zero
 ·obtain⟨C,aL,O,_⟩:=ZgD T;have aD:i<t.size/\touchAt t i=some a:=by
   rcases getElem?_append_cases aL with⟨A,y⟩|⟨_,y⟩;·exact⟨A,by rw[touchAt_of y];exact O⟩
   ·rw[hn C y]at O;cases O
  rcases h.tr.hand i a aD.2 s with x|⟨Q,m,A,y⟩|⟨Q,p,A,y⟩;·exact .inl (x.app u)
  ·by_cases f:Q=k;·subst f;exact .inr (.inr ⟨Q,t.size,upd_same _ _ _,Zk6 y rfl h0⟩)
   ·exact .inr (.inl ⟨Q,m,by rw[upd_ne _ _ f];exact A,y.app u⟩)
  ·refine .inr (.inr ⟨Q,p,?_,y.app u⟩);have:Q≠k:=by rintro rfl;rw[(h.excl Q p A).1]at R;cases R
   rw[upd_ne _ _ this];exact A
 ·obtain⟨f,s⟩:=ZbE s;rw[ZbD];·exact h.chanM i H m r s
  ·exact fun e=>f (h.one i k H j r L e)
 ·by_cases f:i=k
  ·subst f;rw[upd_same]at N;cases N;rw[L]at r;cases r;refine⟨v,hv,ZqC hc,⟨_,by have:=Zd3 (t:=t) h0;simpa using this,rfl⟩,?_⟩;refine⟨i,?_,?_⟩;·have:=Zd3 (t:=t) h0;simp only[ZBz]at this;simp[Trace.g?,this]
   ·rw[deaf_old (ZBF _)];exact hd
  ·rw[upd_ne _ _ f]at N;obtain⟨v',A,y,⟨C,K,h4⟩,h5⟩:=h.chanS i H p r N;have aE:=lt_size_of_getElem? K;exact⟨v',A,by rw[ZbD fun e=>f (h.one i k H j r L e)];exact y,⟨C,by rw[getElem?_append_old aE];exact K,h4⟩,(heard_old aE).2 h5⟩
 ·by_cases f:i=k;·subst f;exact⟨j,L⟩
  ·rw[upd_ne _ _ f,upd_ne _ _ f]at s;exact h.job i r s
 ·by_cases f:i=k;·subst f;exact⟨upd_same _ _ _,aJ⟩
  ·rw[upd_ne _ _ f]at N;rw[upd_ne _ _ f];exact h.excl i p N
 ·obtain⟨i,H,m,A,y,K,h4⟩:=h.wait c zz aF;refine⟨i,H,m,A,y,K,?_⟩;have:i≠k:=by rintro rfl;rw[L]at y;cases y;exact hz zz (K▸aF)
  rw[upd_ne _ _ this];exact h4
 ·rw[F];exact⟨h.keep.1,fun x I=>by rw[ZbD Qa];exact h.keep.2 x I⟩
end
section
variable {E:Env} {W0:World} {J:Nat->Option Job} {z:Zs} {M:Nat->Option Node} {S:Nat->Option Nat} {gs:Array Goroutine} {w w':World} {t u:Trace} {q:Nat->Nat} {sl:Option (Nat×Nat)}
theorem Zm:∀(l:List MemOp) {t:Trace} {bnd:Nat},Tr M S bnd t->(∀c∈l,c.act.touch?=none/\c.act.low bnd)->Tr M S bnd (t++l.toArray)
 |[],t,bnd,h,_=>by simpa using h|x::l,t,bnd,h,hl=>by
  have e:t++(x::l).toArray=(t++#[x])++l.toArray:=Qd
  rw[e];exact Zm l (h.mute (g:=x.g) Qd (by simp[(hl x Qd).1]) (by simp[(hl x Qd).2])) fun c f=>hl c (by simp[f])
theorem ZgE(j:∀h∈u,h.act.touch?=none) {i:Nat} {a:Touch} (ha:touchAt (t++u) i=some a):touchAt t i=some a:=by
 obtain⟨h,g,c,_⟩:=ZgD ha;rcases getElem?_append_cases g with⟨m,f⟩|⟨_,f⟩;·rw[touchAt_of f];exact c
 ·rw[j h f]at c;cases c
theorem Zk7{c p r g:Nat} {x y:MemOp} (hx:t[p]?=some x)(f:x.act=.send c 0)(h:t.heard p)(v:t[r]?=some y)(j:y.act=.recvDone c 0)(m:y.g=g)(s:t.heard r) {i:Nat} (hi:Before t i p):Knows t g i:=⟨r,y,v,m,.inr (hi.hb (.single (.inr ⟨.handOver (c:=c) (k:=0) (by simp[Trace.act?,hx,f]) (by simp[Trace.act?,v,j]),h,s⟩)))⟩
theorem ZfC{g i:Nat} {y:MemOp} (h:t[i]?=some y)(f:y.g=g)(c:t.deaf g i=0):t.heard i:=⟨g,by simp[Trace.g?,h,f],c⟩
theorem Co.meet(aO:E.sh=true) {k m:Nat} {n I:Node} {j:Job} {zz:Value} (h:Co E W0 J (.park j.ch zz) M S gs w t q)(bD:0<k)(hM:M k=some n)(Z:M 0=some I)(hj:J k=some j) {v:Value} (hv:ZbA 8 v=true) {fa:Frame} {ca:List Frame} (aT:gs[0]?=some (parked (G fa ca) #[rcase j.ch zz] (.recv false))) {g₂:Goroutine} (hq:QuitsD E.P m 0 (Go.Conc.served g₂ undef)) {fn fn':FuncId} {pos pos':String}:Co E W0 J .run (upd (upd M k none) 0 (some {I with f:=I.f.finish v})) S ((gs.setIfInBounds 0 (G (fa.finish v) ca)).setIfInBounds k (Go.Conc.served g₂ undef)) (w.setChan j.ch 1 #[] false 1 1 false)
   (t++#[{g:=k,fn,pos,act:=.send j.ch 0},{g:=0,fn:=fn',pos:=pos',act:=.recv j.ch 0 1},{g:=k,fn,pos,act:=.sendDone j.ch 0},{g:=0,fn:=fn',pos:=pos',act:=.recvDone j.ch 0}]) (upd q k m):=by
 have hc:=h.chanM k j n hj hM;have aH:j.ch<w.heap.size:=(Zyy.1 hc).1;have hk:k≠0:=Qa
 obtain⟨fk,ck,gk,aU,bF,bE⟩:=h.live k n hM;have aW:k<gs.size:=(Zyy.1 aU).1;have aL:0<gs.size:=Qa
 have aJ:Deaf t k=0:=h.deaf k (.inl (by rw[hM];simp));have aI:Deaf t 0=0:=h.deaf 0 (.inl (by rw[Z];simp));have aE:∀{i:Nat} {m:Node} {b x:Nat},M i=some m->m.B b x->x≠j.ch:=by intro i m b x s hb e;exact h.chan_free s hc b (e▸hb)
 have bC:=h.fresh k j hj;have R:(w.setChan j.ch 1 #[] false 1 1 false).heap.size=w.heap.size:=by simp[World.setChan]
 generalize Q:({g:=k,fn,pos,act:=.send j.ch 0}:MemOp)=H;generalize aC:({g:=0,fn:=fn',pos:=pos',act:=.recv j.ch 0 1}:MemOp)=K;generalize aD:({g:=k,fn,pos,act:=.sendDone j.ch 0}:MemOp)=L;generalize T:({g:=0,fn:=fn',pos:=pos',act:=.recvDone j.ch 0}:MemOp)=N;have hT:Tr M S w.heap.size (t++#[H,K,L,N]):=Zm [H,K,L,N] h.tr (by simp[<-Q,<-aC,<-aD,<-T,MemAct.touch?,MemAct.low,aH]);have hn:∀op∈(#[H,K,L,N]:Trace),op.act.touch?=none:=by simp[<-Q,<-aC,<-aD,<-T,MemAct.touch?]
 have aX:∀op∈(#[H,K,L,N]:Trace),op.act≠.mark .disable/\op.act≠.mark .enable:=by simp[<-Q,<-aC,<-aD,<-T]
 have aY:∀op∈(#[H,K,L]:Trace),op.act≠.mark .disable/\op.act≠.mark .enable:=by simp[<-Q,<-aC,<-aD]
 have g0:(t++#[H,K,L,N])[t.size]?=some H:=by have:=Zd3 (t:=t) (u:=#[H,K,L,N]) (i:=0) rfl;rwa [ZBz]at this
 have g3:(t++#[H,K,L,N])[t.size+3]?=some N:=Zd3 (t:=t) (u:=#[H,K,L,N]) (i:=3) rfl;have e3:t++#[H,K,L,N]=(t++#[H,K,L])++#[N]:=Qd
 have d3:(t++#[H,K,L,N]).deaf 0 (t.size+3)=0:=by
  rw[e3,deaf_old Qd];have:(t++#[H,K,L]).size=t.size+3:=Qd
  rw[<-this];exact(Zd4 t 0 _ aY).trans aI
 have d0:(t++#[H,K,L,N]).deaf k t.size=0:=by rw[deaf_old (ZBF _)];exact aJ
 have hD:∀g,Deaf (t++#[H,K,L,N]) g=Deaf t g:=fun g=>Zd4 t g _ aX;have aF:∀i,Before (t++#[H,K,L,N]) i t.size->Knows (t++#[H,K,L,N]) 0 i:=fun i s=>Zk7 (c:=j.ch) g0 (by rw[<-Q]) (ZfC g0 (by rw[<-Q]) d0) g3 (by rw[<-T]) (by rw[<-T]) (ZfC g3 (by rw[<-T]) d3) s;have hS:∀i p,S i=some p->i≠k:=by rintro i p hp rfl;rw[(h.excl i p hp).1]at hM;cases hM
 obtain⟨aR,aP,x',aK,aG,aZ⟩:=h.live 0 I Z;rw[aT]at aK;rcases aG with⟨aN,aG⟩|⟨bB,_⟩;case inr=>omega
 have he:=(ZB9 aK).trans aG;have aQ:fa=aR/\ca=aP:=by simp only[ZbP,parked,G,Goroutine.mk.injEq,and_true]at he;exact⟨he.1,he.2⟩
 obtain⟨rfl,rfl⟩:=aQ;have aB:∀i m,upd (upd M k none) 0 (some {I with f:=I.f.finish v}) i=some m->(i=0/\m={I with f:=I.f.finish v})∨(i≠0/\i≠k/\M i=some m):=by
  intro i m s;by_cases A:i=0;·subst A;rw[upd_same]at s;exact .inl ⟨rfl,(ZB9 s).symm⟩
  ·rw[upd_ne _ _ A]at s;exact .inr ⟨A,(ZbE s).1,(ZbE s).2⟩
 have aA:∀i m,upd (upd M k none) 0 (some {I with f:=I.f.finish v}) i=some m->∃m',M i=some m'/\m'.B=m.B/\m'.sh=m.sh:=by
  intro i m s;rcases aB i m s with⟨rfl,rfl⟩|⟨_,_,s⟩;·exact⟨I,Z,rfl,rfl⟩
  ·exact⟨m,s,rfl,rfl⟩
 refine⟨fun i m s=>?_,fun i x s F hx=>?_,fun i s=>?_,by rw[upd_same];simp,fun a b m m' c d x aS ha hb hc hd=>?_,⟨hT.clean,by rw[R];exact hT.seen,fun i a ha F x m hx=>?_,fun i a ha F=>?_⟩,fun i j' m s F=>?_,fun i j' p s hp=>?_,fun i s F=>?_,h.one,h.fresh,fun i p hp=>?_,(by intro c zz bA;cases bA),fun i j' m s aV F=>?_,fun i m b x F hb hx=>?_,?_,h.same⟩
 ·rcases aB i m s with⟨rfl,rfl⟩|⟨A,r,s⟩
  ·refine⟨fa.finish v,ca,_,?_,.inl ⟨by rw[upd_ne _ _ hk.symm];exact aN,rfl⟩,?_⟩;·rw[ZyG hk,ZyH aL];rfl
   ·have C:Rel E I.sh I.bs I.B I.f I.cs I.l fa ca (w.setChan j.ch 1 #[] false 1 1 false):=Zc9 aO aZ (by rw[R];exact ZBF _) fun b x hb=>ZbD (aE Z hb);exact⟨C.st.top (C.st.head.finish (VR.closed 8 v hv)) (Blk.le_refl _) (Zdr _ _),C.wr,C.low⟩
  ·obtain⟨fi,ci,x,O,V,C⟩:=h.live i m s;refine⟨fi,ci,x,?_,?_,Zc9 aO C (by rw[R];exact ZBF _) fun b x hb=>ZbD (aE s hb)⟩;·rw[ZyG (fun e=>r e.symm),ZyG (fun e=>A e.symm),O]
   ·rw[upd_ne _ _ r];unfold ZfB at V |-;rw[Zij (ZBU A)]at V |-;exact V
 ·have A:i≠0:=Qa
  rw[upd_ne _ _ A]at F;by_cases r:i=k;·subst r;rw[ZyH (by simpa using aW)]at hx;obtain rfl:=ZB9 hx;rw[upd_same,hD,aJ];exact hq
  ·rw[ZyG (fun e=>r e.symm),ZyG (fun e=>A e.symm)]at hx;rw[upd_ne _ _ r]at F;rw[upd_ne _ _ r,hD];exact h.old i x s F hx
 ·rw[hD];by_cases A:i=0;·rw[A];exact aI
  ·refine h.deaf i (s.imp (fun x=>?_) fun x=>by simpa using x);rw[upd_ne _ _ A]at x;by_cases r:i=k;·subst r;rw[upd_same]at x;exact absurd rfl x
   ·rwa [upd_ne _ _ r]at x
 ·obtain⟨m1,O,C,V⟩:=aA a m ha;obtain⟨m2,h4,h5,h6⟩:=aA b m' hb;have:=h.apart a b m1 m2 c d x aS O h4 (C▸hc) (h5▸hd);rw[V,h6]at this;exact this
 ·obtain⟨m1,O,C,V⟩:=aA x m hx;refine(hT.known i a ha F x m1 O).imp id fun hf b y hb hy=>?_;have:=hf b y (by rw[C];exact hb) hy;rw[V]at this;exact this
 ·rcases h.tr.hand i a (ZgE hn ha) F with x|⟨i',m,O,C⟩|⟨i',p,O,C⟩;·exact .inl (x.app _)
  ·by_cases r:i'=k;·subst r;exact .inl (aF i (Zk6 (y:=H) C (by rw[<-Q]) rfl))
   ·by_cases A:i'=0;·subst A;exact .inl (C.app _)
    ·exact .inr (.inl ⟨i',m,by rw[upd_ne _ _ A,upd_ne _ _ r];exact O,C.app _⟩)
  ·exact .inr (.inr ⟨i',p,O,C.app _⟩)
 ·rcases aB i m F with⟨rfl,rfl⟩|⟨A,r,F⟩;·have h0:=h.chanM 0 j' I s Z;rw[ZbD fun e=>hk (h.one 0 k j' j s hj e).symm];exact h0
  ·rw[ZbD fun e=>r (h.one i k j' j s hj e)];exact h.chanM i j' m s F
 ·obtain⟨v',O,C,⟨op,V,h4⟩,h5⟩:=h.chanS i j' p s hp;have aM:=lt_size_of_getElem? V;exact⟨v',O,by rw[ZbD fun e=>hS i p hp (h.one i k j' j s hj e)];exact C,⟨op,by rw[getElem?_append_old aM];exact V,h4⟩,(heard_old aM).2 h5⟩
 ·refine h.job i s (F.imp (fun x=>?_) id);rw[upd_ne _ _ (show i≠0 by omega)]at x;by_cases r:i=k;·subst r;rw[upd_same]at x;exact absurd rfl x
  ·rwa [upd_ne _ _ r]at x
 ·obtain⟨O,C⟩:=h.excl i p hp;exact⟨by rw[upd_ne _ _ (show i≠0 by omega),upd_ne _ _ (hS i p hp)];exact O,C⟩
 ·rcases aB i m F with⟨rfl,rfl⟩|⟨_,_,F⟩;·omega
  ·exact h.stops i j' m s aV F
 ·obtain⟨m1,O,C,V⟩:=aA i m F;rw[<-V];exact h.base i m1 b x O (by rw[C];exact hb) hx
 ·rw[R];exact⟨h.keep.1,fun x hx=>by rw[ZbD Qa];exact h.keep.2 x hx⟩
end
end Go.Twin
namespace Go.Twin
open Go.Conc
open Go.ConcN (sumTo upd sumTo_upd upd_ne upd_same)
section
variable {E:Env} {sh:Nat->Prop} {bs':List Frame} {Stop:Frame->List Frame->World->Prop}
theorem ZqD(V:E.Fine) {B:Blk} {f fa:Frame} {cs ca:List Frame} {l w:World} (hR:Rel E sh bs' B f cs l fa ca w)(hc:f.mode=.run->Chk E f) (H:∀t d,∃s c l' es,stepG E.P true (G f cs) (l.re t d)=.go (G s c) l' es)(I:∀t d s c l' es,stepG E.P true (G f cs) (l.re t d)=.go (G s c) l' es->¬Zcb E.P s c l') (O:Bool):∃t d s c l' es v p w' r A,stepG E.P true (G f cs) (l.re t d)=.go (G s c) l' es/\stepG E.P O (G fa ca) w=.go (G v p) w' r/\Rel E sh bs' A s c l' v p w'/\Went sh B l w A l' w'/\w'.tape=w.tape/\∀e∈r,ZbL ⟨sh,fun _=>True⟩ A e:=by
 let t:Nat->Question->Nat:=fun j q=>w.tape (w.drawn+j) q;obtain⟨s,c,l',es,g⟩:=H t 0;have N:=I _ _ _ _ _ _ g;have K:¬ZbO [ZG E.P] f cs:=by
  intro K;rcases Zig (l:=l.re t 0) hR.st.head.kind.1 K with⟨o,x,es,y⟩|⟨L,C,l2,Q,y,F⟩;·rw[y]at g;cases g
  ·rw[y]at g;simp only[GStep.go.injEq,G,Goroutine.mk.injEq,and_true]at g;obtain⟨⟨rfl,rfl⟩,rfl,_⟩:=g;exact N F
 have hw:WR E ⟨sh,fun _=>True⟩ B (l.re t 0) w:=hR.wr.retape rfl rfl rfl fun i q _=>by show w.tape (w.drawn+(0+i)) q=w.tape (w.drawn+i) q;rw[ZB1]
 have:=Zfu V hR.st hw hR.low true O hc (Zfv hR.st K) (.inl fun _=>trivial);rw[g]at this;rcases this with⟨L,C,y,hp⟩|⟨L,C,v,p,w',r,A,aA,y,F,m,R,T⟩;·exfalso;simp only[G,Goroutine.mk.injEq,and_true]at y;obtain⟨rfl,rfl⟩:=y;exact N (.inl hp)
 ·simp only[G,Goroutine.mk.injEq,and_true]at y;obtain⟨rfl,rfl⟩:=y;exact⟨t,0,s,c,l',es,v,p,w',r,A,g,F,⟨R,m.wr.retape rfl rfl rfl fun _ _ h=>h.elim,fun b Z=>ZBJ (hR.low b Z) m.size.2.1⟩,⟨m.le,m.al,m.keep,m.size,⟨m.same.1,m.same.2.1⟩,⟨m.lone.1,m.lone.2.1⟩,m.lkeep,m.cov⟩,m.same.2.2.1,fun e he=>m.ev e (T e he)⟩
end
inductive W (E:Env):(Nat->Option Node)->Prop|mk (M:Nat->Option Node)(h:∀i n,M i=some n->n.stop n.f n.cs n.l∨((n.f.mode=.run->Chk E n.f)/\∀t d,∃f' cs' l' es,stepG E.P true (G n.f n.cs) (n.l.re t d)=.go (G f' cs') l' es))(hr:∀i n,M i=some n->n.stop n.f n.cs n.l->W E (upd M i none))(hs:∀i n t d f' cs' l' es B',M i=some n->¬n.stop n.f n.cs n.l->stepG E.P true (G n.f n.cs) (n.l.re t d)=.go (G f' cs') l' es->W E (upd M i (some {n with B:=B',f:=f',cs:=cs',l:=l'}))):W E M
section
variable {E:Env}
theorem Zd5{α:Type} (f:Nat->α) {i j:Nat} (h:i≠j)(x y:α):upd (upd f i x) j y=upd (upd f j y) i x:=by grind[upd]
theorem Zcl{α:Type} (f:Nat->α)(i:Nat)(x y:α):upd (upd f i x) i y=upd f i y:=by funext k;unfold upd;by_cases c:k=i<;>simp[c]
theorem Zik{α:Type} (f:Nat->α)(i:Nat)(x:α)(h:f i=x):upd f i x=f:=by
 funext k;unfold upd;by_cases c:k=i;·simp[c,h]
 ·simp[c]
theorem W.empty:W E (fun _=>none):=.mk _ (fun i n h=>by cases h) (fun i n h=>by cases h) fun i n t d j c l' g f h=>by cases h
theorem W.drop{M:Nat->Option Node} (h:W E M)(i:Nat):W E (upd M i none):=by induction h with|mk M h hr hs ihr ihs=>
  have r:∀j n,upd M i none j=some n->j≠i/\M j=some n:=fun j n=>ZbE;refine .mk _ (fun j n f=>h j n (r j n f).2) (fun j n f c=>?_) fun j n t d x g l' v s f y c=>?_;·obtain⟨m,p⟩:=r j n f;rw[Zd5 M (fun e=>m e.symm)];exact ihr j n p c
  ·obtain⟨m,p⟩:=r j n f;rw[Zd5 M (fun e=>m e.symm)];exact ihs j n t d x g l' v s p y c
theorem W.add{Stop:Frame->List Frame->World->Prop} {f:Frame} {cs:List Frame} {l:World} (hL:LG E Stop f cs l) {i:Nat}:∀{M:Nat->Option Node},W E M->M i=none->∀(sh:Nat->Prop)(bs:List Frame)(B:Blk),W E (upd M i (some ⟨sh,bs,B,f,cs,l,Stop⟩)):=by induction hL with
 |stop f cs l hst=>intro M C;induction C with|mk M h hr hs ihr ihs=>
   intro r sh bs B;have v:∀j n,upd M i (some ⟨sh,bs,B,f,cs,l,Stop⟩) j=some n->(j=i/\n=⟨sh,bs,B,f,cs,l,Stop⟩)∨(j≠i/\M j=some n):=by
    intro j n c;by_cases e:j=i;·subst e;rw[upd_same]at c;exact .inl ⟨rfl,(ZB9 c).symm⟩
    ·rw[upd_ne _ _ e]at c;exact .inr ⟨e,c⟩
   refine .mk _ (fun j n c=>?_) (fun j n c s=>?_) fun j n t d A m l' y x c s p=>?_
   ·rcases v j n c with⟨rfl,rfl⟩|⟨_,c⟩;·exact .inl hst
    ·exact h j n c
   ·rcases v j n c with⟨rfl,rfl⟩|⟨g,c⟩;·rw[Zcl,Zik M j none r];exact .mk M h hr hs
    ·rw[Zd5 M (fun e=>g e.symm)];exact ihr j n c s (by rw[upd_ne _ _ (fun e=>g e.symm)];exact r) sh bs B
   ·rcases v j n c with⟨rfl,rfl⟩|⟨g,c⟩;·exact absurd hst s
    ·rw[Zd5 M (fun e=>g e.symm)];exact ihs j n t d A m l' y x c s p (by rw[upd_ne _ _ (fun e=>g e.symm)];exact r) sh bs B
 |step f cs l hc hg hss ih=>intro M C;induction C with|mk M h hr hs ihr ihs=>
   intro r sh bs B;have v:∀j n,upd M i (some ⟨sh,bs,B,f,cs,l,Stop⟩) j=some n->(j=i/\n=⟨sh,bs,B,f,cs,l,Stop⟩)∨(j≠i/\M j=some n):=by
    intro j n c;by_cases e:j=i;·subst e;rw[upd_same]at c;exact .inl ⟨rfl,(ZB9 c).symm⟩
    ·rw[upd_ne _ _ e]at c;exact .inr ⟨e,c⟩
   refine .mk _ (fun j n c=>?_) (fun j n c s=>?_) fun j n t d A m l' y x c s p=>?_
   ·rcases v j n c with⟨rfl,rfl⟩|⟨_,c⟩;·exact .inr ⟨hc,hg⟩
    ·exact h j n c
   ·rcases v j n c with⟨rfl,rfl⟩|⟨g,c⟩;·rw[Zcl,Zik M j none r];exact .mk M h hr hs
    ·rw[Zd5 M (fun e=>g e.symm)];exact ihr j n c s (by rw[upd_ne _ _ (fun e=>g e.symm)];exact r) sh bs B
   ·rcases v j n c with⟨rfl,rfl⟩|⟨g,c⟩;·rw[Zcl];exact ih t d A m l' y p (.mk M h hr hs) r sh bs x
    ·rw[Zd5 M (fun e=>g e.symm)];exact ihs j n t d A m l' y x c s p (by rw[upd_ne _ _ (fun e=>g e.symm)];exact r) sh bs B
theorem W.not_lost{M:Nat->Option Node} (L:W E M):(∀i n,M i=some n->Halts n.stop)->∀i n,M i=some n->¬Zcb E.P n.f n.cs n.l:=by induction L with|mk M h hr hs ihr ihs=>
  intro y i n p F;by_cases c:n.stop n.f n.cs n.l;·exact Zfy (y i n p) c F
  ·rcases h i n p with v|⟨_,v⟩;·exact c v
   ·have A:Zcb E.P n.f n.cs (n.l.re n.l.tape n.l.drawn):=F;obtain⟨Q,H,l',O,C⟩:=v n.l.tape n.l.drawn;rcases lost_step A with⟨o,w,g,x⟩|⟨I,s,N,g,x,K⟩;·rw[x]at C;cases C
    ·refine ihs i n n.l.tape n.l.drawn I s N g n.B p c x (fun j m r=>?_) i _ (upd_same _ _ _) K;by_cases e:j=i;·subst e;rw[upd_same]at r;cases r;exact y j n p
     ·rw[upd_ne _ _ e]at r;exact y j m r
end
variable {M M' M'':Nat->Option Node}
def ZgF(P:Program)(Post:Value->World->Prop)(gs:Array Goroutine)(w:World)(sl:Option (Nat×Nat))(t:Trace)(i:Nat):Prop:=∃c w' f ops,runT P (crowd gs w sl) i=(.next (crowd c w' f),ops)/\Fin P Post c w' f (t++ops)
def ZcP(E:Env)(j:Job):Prop:=∀{sh:Nat->Prop} {B:Blk} {f:Frame} {cs:List Frame} {l:World} {fa:Frame} {ca:List Frame} {w:World},j.stop f cs l->Rel E sh j.bs B f cs l fa ca w->∃v g c m,j.V v/\ZbA 8 v=true/\stepG E.P false (G fa ca) w=.comm c #[scase j.ch v g] true .send w #[]/\QuitsD E.P m 0 (Go.Conc.served c undef)
structure Same (z:Zs)(M M':Nat->Option Node):Prop where
 node:∀i n',M' i=some n'->∃n,M i=some n/\n'.sh=n.sh/\n'.bs=n.bs/\n'.stop=n.stop/\n.B.le n'.B
 zero:z≠.run->M' 0=M 0
theorem Same.refl(z:Zs)(M:Nat->Option Node):Same z M M:=⟨fun i n h=>⟨n,h,rfl,rfl,rfl,Blk.le_refl _⟩,fun _=>rfl⟩
theorem Same.trans{z:Zs} (h:Same z M M')(k:Same z M' M''):Same z M M'':=⟨fun i n A=>by obtain⟨C,r,s,v,x,y⟩:=k.node i n A;obtain⟨F,f,g,j,m,p⟩:=h.node i C r;exact⟨F,f,s.trans g,v.trans j,x.trans m,Blk.le_trans p y⟩,fun c=>(k.zero c).trans (h.zero c)⟩
theorem upd_some{α:Type} {f:Nat->Option α} {k j:Nat} {x n:α} (h:upd f k (some x) j=some n):(j=k/\n=x)∨(j≠k/\f j=some n):=by grind[upd]
def Zcm(J:Nat->Option Job)(M:Nat->Option Node)(w:World)(M':Nat->Option Node)(w':World):Prop:=w.heap.size<=w'.heap.size/\∀x,x<w.heap.size->(∀i n b,M i=some n->n.B b x->n.sh b)->(∀k j,J k=some j->j.ch≠x)->w'.heap[x]?=w.heap[x]?/\∀i n b,M' i=some n->n.B b x->n.sh b
theorem Zcm.refl(J:Nat->Option Job)(M:Nat->Option Node)(w:World):Zcm J M w M w:=⟨ZBF _,fun x _ h _=>⟨rfl,h⟩⟩
theorem Zcm.trans{J:Nat->Option Job} {w w' c:World} (h:Zcm J M w M' w')(k:Zcm J M' w' M'' c):Zcm J M w M'' c:=by grind[Zcm]
def Un(U:Nat->Prop)(M:Nat->Option Node)(S:Nat->Option Nat):Prop:=∀k,0<k->(U k↔(M k≠none∨S k≠none))
section
variable {E:Env} {W0:World} {J:Nat->Option Job} {U:Nat->Prop} {Post:Value->World->Prop}
theorem Zil(hG:E.Fine)(aM:E.sh=true)(hJ:∀k j,J k=some j->ZcP E j) {M:Nat->Option Node} (hW:W E M):∀{z:Zs} {S:Nat->Option Nat} {gs:Array Goroutine} {w:World} {sl:Option (Nat×Nat)} {t:Trace} {q:Nat->Nat},Co E W0 J z M S gs w t q->(∀i n,M i=some n->Halts n.stop)->Un U M S->(∀{M':Nat->Option Node} {S':Nat->Option Nat} {s:Array Goroutine} {w':World} {sl':Option (Nat×Nat)} {t':Trace} {q':Nat->Nat} {n':Node} {fa:Frame} {ca:List Frame},z=.run->Co E W0 J .run M' S' s w' t' q'->W E (upd M' 0 none)->Same z M M'->Zcm J M w M' w'->Un U M' S'->s.size=gs.size->M' 0=some n'->n'.stop n'.f n'.cs n'.l->s[0]?=some (G fa ca)->q' 0=0->Rel E n'.sh n'.bs n'.B n'.f n'.cs n'.l fa ca w'->ZgF E.P Post s w' sl' t' 0)->(∀{M':Nat->Option Node} {S':Nat->Option Nat} {s:Array Goroutine} {w':World} {sl':Option (Nat×Nat)} {t':Trace} {q':Nat->Nat} {n:Node} {v zz:Value} {k:Nat} {j:Job},z=.park j.ch zz->J k=some j->j.V v->M 0=some n->Same z M (upd M' 0 (some n))->Co E W0 J .run M' S' s w' t' q'->W E (upd M' 0 none)->M' 0=some {n with f:=n.f.finish v}->M' k=none->(∀x,0<x->(S' x=none->M' x=none->¬U x∨x=k)/\((M' x≠none∨S' x≠none)->U x/\x≠k))->s.size=gs.size-> w.heap.size<=w'.heap.size->Fin E.P Post s w' sl' t')->Fin E.P Post gs w sl t:=by induction hW with|mk M h hr hs ihr ihs=>
  have bH:∀(N:Nat) {z:Zs} {S:Nat->Option Nat} {gs:Array Goroutine} {w:World} {sl:Option (Nat×Nat)} {t:Trace} {q:Nat->Nat},sumTo gs.size q=N->Co E W0 J z M S gs w t q->(∀i n,M i=some n->Halts n.stop)->Un U M S->(∀{M':Nat->Option Node} {S':Nat->Option Nat} {s:Array Goroutine} {w':World} {sl':Option (Nat×Nat)} {t':Trace} {q':Nat->Nat} {n':Node} {fa:Frame} {ca:List Frame},z=.run->Co E W0 J .run M' S' s w' t' q'->W E (upd M' 0 none)->Same z M M'->Zcm J M w M' w'->Un U M' S'->s.size=gs.size->M' 0=some n'->n'.stop n'.f n'.cs n'.l->s[0]?=some (G fa ca)->q' 0=0->Rel E n'.sh n'.bs n'.B n'.f n'.cs n'.l fa ca w'->ZgF E.P Post s w' sl' t' 0)->(∀{M':Nat->Option Node} {S':Nat->Option Nat} {s:Array Goroutine} {w':World} {sl':Option (Nat×Nat)} {t':Trace} {q':Nat->Nat} {n:Node} {v zz:Value} {k:Nat} {j:Job},z=.park j.ch zz->J k=some j->j.V v->M 0=some n->Same z M (upd M' 0 (some n))->Co E W0 J .run M' S' s w' t' q'->W E (upd M' 0 none)->M' 0=some {n with f:=n.f.finish v}->M' k=none->(∀x,0<x->(S' x=none->M' x=none->¬U x∨x=k)/\((M' x≠none∨S' x≠none)->U x/\x≠k))->s.size=gs.size-> w.heap.size<=w'.heap.size->Fin E.P Post s w' sl' t')->Fin E.P Post gs w sl t:=by intro N;induction N using Nat.strongRecOn with|ind N ihN=>
    intro z S gs w sl t q hN I hS hU K0 K1;have aX:∀g∈gs,awake g:=by
     intro g hg;obtain⟨i,K,rfl⟩:=Array.mem_iff_getElem.1 hg;rcases I.status (Zyw K)with Q|Q|⟨_,c,zz,fa,ca,_,Q⟩;·exact awake_of (.inl Q)
     ·exact awake_of (.inr (.inr Q))
     ·exact awake_of (.inr (.inl (by rw[Q];rfl)))
    have aS:∃(i:Nat)(g:Goroutine),gs[i]?=some g/\g.status=.running:=by
     have aJ:∀(i:Nat)(n:Node),M i=some n->(i=0->z=.run)->∃(i:Nat)(g:Goroutine),gs[i]?=some g/\g.status=.running:=by
      intro i n K hz;obtain⟨fa,ca,g,Q,h2,_⟩:=I.live i n K;refine⟨i,g,Q,?_⟩;rcases h2 with⟨_,rfl⟩|⟨_,_,h2,_⟩
      ·unfold ZbP;split;·cases hz rfl
       ·rfl
      ·exact h2
     cases hz:z with
     |run=>cases H:M 0 with
      |none=>exact absurd H I.zero|some n=>exact aJ 0 n H fun _=>hz
     |park c zz=>obtain⟨k,j,n,Q,_,_,h4⟩:=I.wait c zz hz;exact aJ k n h4 fun e=>Qa
    obtain⟨i,g,d,sl',K,aC,aE⟩:=crowd_pick (P:=E.P) (w:=w) (sl:=sl) aX aS;have aO:i<gs.size:=(Zyy.1 K).1;replace I:=I.at_ d;cases H:M i with
    |none=>
     have F:0<i:=ZBU fun e=>I.zero (e▸H);have hq:=I.old i g F H K;have aD:(i==0)=false:=Qk
     cases aL:q i with|zero=>rw[aL]at hq;rw[hq.1]at aC;cases aC|succ k=>
      rw[aL]at hq;rcases hq with⟨hf,_⟩|⟨_,g',es,bB,R,bD⟩;·rw[hf]at aC;cases aC
      have r:=runT_crowd_go (P:=E.P) (sl:=sl') (i:=i) K (by rw[aD];exact R (w.at d));have aB:((gs.map (woken E.P g g' (w.at d))).setIfInBounds i g').size=gs.size:=Qd
      have aT:sumTo gs.size (upd q i k)+(k+1)=sumTo gs.size q+k:=by have:=sumTo_upd q k id aO;simpa [aL] using this
      exact Zds (aE.trans r) (ihN (sumTo gs.size (upd q i k)) Qa (by rw[aB]) (I.leaver F H K bB bD) hS hU (fun T e2 e3 O ek eu es=>K0 T e2 e3 O ek eu (es.trans aB)) fun T e2 e3 O e5 e6 e7 e8 e9 Z es=>K1 T e2 e3 O e5 e6 e7 e8 e9 Z (es.trans aB))
    |some n=>
     obtain⟨fa,ca,g1,Q,h2,hR⟩:=I.live i n H;rw[K]at Q;obtain rfl:=ZB9 Q;rcases h2 with⟨aQ,hg⟩|⟨F,bE,_,R⟩
     ·have hz:i=0->z=.run:=by rintro rfl;rw[hg]at aC;cases z with
       |run=>rfl|park c zz=>cases aC
      have bA:g=G fa ca:=by
       rw[hg];unfold ZbP;split;·cases hz rfl
       ·rfl
      clear hg;subst bA;by_cases A:n.stop n.f n.cs n.l
      ·rcases Nat.eq_zero_or_pos i with rfl|F;· obtain rfl:=hz rfl;obtain⟨s,w',bL,ops,h3,h4⟩:=K0 (sl':=sl') rfl I ((W.mk M h hr hs).drop 0) (Same.refl _ _) (Zcm.refl _ _ _) hU rfl H A K aQ hR;exact Zds (aE.trans h3) h4
       ·
        obtain⟨j,hj⟩:=I.job i F (.inl (by rw[H];simp));obtain⟨aN,aY⟩:=I.stops i j n F hj H;rw[aY]at hR;rw[aN]at A;obtain⟨v,zz,g₂,m,hv,aZ,aG,aR⟩:=hJ i j hj A hR;have hc:=I.chanM i j n hj H;have aD:(i==0)=false:=Qk
        by_cases aP:∃zz,z=.park j.ch zz
        ·obtain⟨aV,rfl⟩:=aP;obtain⟨n0,aH⟩:∃n0,M 0=some n0:=by cases h0:M 0 with
          |none=>exact absurd h0 I.zero|some n0=>exact⟨n0,rfl⟩
         obtain⟨f0,c0,g0,k1,k2,k3⟩:=I.live 0 n0 aH;rcases k2 with⟨_,k2⟩|⟨k2,_⟩;case inr=>omega
         have bG:g0=parked (G f0 c0) #[rcase j.ch aV] (.recv false):=k2;subst bG;have hp:partners (gs.setIfInBounds i ph) j.ch false=[(0,0)]:=by
          rw[partners_one (j:=0) (g:=parked (G f0 c0) #[rcase j.ch aV] (.recv false)) (stand_get Qa k1) fun k x hk C=>?_,offersAt_parked_recv,if_pos rfl];·rfl
          ·rcases getElem?_stand gs i k x C with⟨rfl,rfl⟩|⟨_,C⟩;·rfl
           ·rcases I.status C with Q|Q|⟨e,_⟩;·exact offersAt_of_not_blocked (by rw[Q];simp) _ _
            ·exact offersAt_of_not_blocked (by rw[Q];simp) _ _
            ·exact absurd e hk
         have r:=crowd_send_meets (P:=E.P) (sl:=sl') (shape:=.send) (shj:=.recv false) K (by rw[aD];exact aG) hc (show 0≠i by omega) k1 hp;rw[Zd2]at r;simp only[Array.empty_append]at r;have aK:=I.meet aM F H aH hj aZ k1 aR (fn:=g₂.frame.fn) (fn':=(G f0 c0).frame.fn) (pos:=g₂.frame.place) (pos':=(G f0 c0).frame.place);refine Zds (aE.trans r) (K1 rfl hj hv aH ⟨fun x n' C=>?_,fun _=>by rw[upd_same,aH]⟩ aK ?_ (upd_same _ _ _) ?_ (fun x C=>?_) Qd (by simp[World.setChan,World.at]))
         ·by_cases aI:x=0;·subst aI;rw[upd_same]at C;cases C;exact⟨n0,aH,rfl,rfl,rfl,Blk.le_refl _⟩
          ·rw[upd_ne _ _ aI,upd_ne _ _ aI]at C;exact⟨n',(ZbE C).2,rfl,rfl,rfl,Blk.le_refl _⟩
         ·rw[Zcl];exact(hr i n H (by rw[aN];exact A)).drop 0
         ·rw[upd_ne _ _ (show i≠0 by omega),upd_same]
         ·have aI:x≠0:=Qa
          have aW:S i=none:=by cases hs:S i with
           |none=>rfl|some p=>rw[(I.excl i p hs).1]at H;cases H
          rw[upd_ne _ _ aI];by_cases e:x=i;·subst e;rw[upd_same];exact⟨fun _ _=>.inr rfl,fun y=>absurd y (by rw[aW];simp)⟩
          ·rw[upd_ne _ _ e];refine⟨fun Q h2=>.inl fun hu=>?_,fun y=>⟨(hU x C).2 y,e⟩⟩;rcases(hU x C).1 hu with h3|h3;·exact h3 h2
           ·exact h3 Q
        ·have aU:∀zz,z≠.park j.ch zz:=fun zz e=>aP ⟨zz,e⟩;have r:=crowd_send_room (P:=E.P) (sl:=sl') (shape:=.send) K (by rw[aD];exact aG) hc Qc (I.offers i aU);rw[Zd2]at r;simp only[Array.empty_append]at r;have aK:=I.send aM F H hj aU hv aR (fn:=g₂.frame.fn) (pos:=g₂.frame.place);have aA:Same z M (upd M i none):=⟨fun x n' C=>⟨n',(ZbE C).2,rfl,rfl,rfl,Blk.le_refl _⟩,fun _=>upd_ne _ _ Qa⟩;have aF:Zcm J M w (upd M i none) ((w.at d).setChan j.ch 1 #[v] false 1 0 false):=⟨by simp[World.setChan,World.at],fun x C hM hJ=>⟨by rw[ZbD (fun e=>hJ i j hj e.symm)];rfl,fun i n b K=>hM i n b (ZbE K).2⟩⟩;refine Zds (aE.trans r) (ihr i n H (by rw[aN];exact A) aK (fun x n' C=>hS x n' (ZbE C).2) (fun x C=>?_) (fun T e2 e3 O ek eu es=>K0 T e2 e3 (aA.trans O) (aF.trans ek) eu (es.trans Qd)) fun T e2 e3 O e5 e6 e7 e8 e9 Z es ew=>K1 T e2 e3 (by rw[upd_ne _ _ Qa]at O;exact O) (aA.trans e5) e6 e7 e8 e9 Z (es.trans Qd) (ZBG aF.1 ew));rw[hU x C];by_cases e:x=i;·subst e;rw[upd_same,upd_same,H];simp
         ·rw[upd_ne _ _ e,upd_ne _ _ e]
      ·rcases h i n H with h3|⟨hc,hg⟩;·exact absurd h3 A
       have bC:∀t d f' L l' es,stepG E.P true (G n.f n.cs) (n.l.re t d)=.go (G f' L) l' es->¬Zcb E.P f' L l':=by
        intro t d f' L l' es R;refine(hs i n t d f' L l' es n.B H A R).not_lost (fun x n' C=>?_) i _ (upd_same _ _ _);by_cases e:x=i;·subst e;rw[upd_same]at C;cases C;exact hS x n H
        ·rw[upd_ne _ _ e]at C;exact hS x n' C
       obtain⟨tt,dd,f',L,l',es,bK,bI,w',bJ,B',g1,g2,g3,g4,g5,g7⟩:=ZqD hG hR hc hg bC (i==0);have r:=runT_crowd_go (P:=E.P) (sl:=sl') (i:=i) K g2;have aA:Same z M (upd M i (some {n with B:=B',f:=f',cs:=L,l:=l'})):=⟨fun x n' C=>by
        by_cases e:x=i;·subst e;rw[upd_same]at C;cases C;exact⟨n,H,rfl,rfl,rfl,g4.le⟩
        ·rw[upd_ne _ _ e]at C;exact⟨n',C,rfl,rfl,rfl,Blk.le_refl _⟩,fun bF=>upd_ne _ _ (by rintro rfl;exact bF (hz rfl))⟩;have aF:Zcm J M w (upd M i (some {n with B:=B',f:=f',cs:=L,l:=l'})) w':=⟨g4.size.1,fun x C hM hJ=>⟨g4.keep x C fun b hb=>hM i n b H hb,fun y n' b hy hb=>by
        rcases upd_some hy with⟨rfl,rfl⟩|⟨_,hy⟩
        ·rcases g4.al b x hb with h5|h5;·exact hM y n b H h5
         ·have h6:=h5.2.1;have:(w.at d).heap.size=w.heap.size:=rfl;omega
        ·exact hM y n' b hy hb⟩⟩;refine Zds (aE.trans r) (ihs i n tt dd f' L l' es B' H A g1 (I.go aM H hz aQ K g3 g4 g5 g7 hR) (fun x n' C=>?_) (fun x C=>?_) (fun T e2 e3 O ek eu es=>K0 T e2 e3 (aA.trans O) (aF.trans ek) eu (es.trans Qd)) fun T e2 e3 O e5 e6 e7 e8 e9 Z es ew=>K1 T e2 e3 ?_ (aA.trans e5) e6 e7 e8 e9 Z (es.trans Qd) (ZBG aF.1 ew));·obtain⟨n2,k1,_,_,k4,_⟩:=aA.node x n' C;rw[k4];exact hS x n2 k1
       ·rw[hU x C];by_cases e:x=i;·subst e;rw[upd_same,H];simp
        ·rw[upd_ne _ _ e]
       ·rw[aA.zero (by rw[T];simp)]at O;exact O
     ·
      have aD:(i==0)=false:=Qk
      have r:=runT_crowd_go (P:=E.P) (sl:=sl') (i:=i) K (by rw[aD];exact R (w.at d));rw[Zd2]at r;have aB:((gs.map (woken E.P g (G fa ca) (w.at d))).setIfInBounds i (G fa ca)).size=gs.size:=Qd
      have aT:sumTo gs.size (upd q i 0)+1=sumTo gs.size q+0:=by have:=sumTo_upd q 0 id aO;simpa [bE] using this
      refine Zds (aE.trans r) ?_;rw[Zyn];exact ihN (sumTo gs.size (upd q i 0)) Qa (by rw[aB]) (I.born F H K hR) hS hU (fun T e2 e3 O ek eu es=>K0 T e2 e3 O ek eu (es.trans aB)) fun T e2 e3 O e5 e6 e7 e8 e9 Z es=>K1 T e2 e3 O e5 e6 e7 e8 e9 Z (es.trans aB)
  intro z S gs w sl t q I hS hU K0 K1;exact bH _ rfl I hS hU K0 K1
end
section
variable {E:Env} {W0:World} {J:Nat->Option Job} {z:Zs} {M:Nat->Option Node} {S:Nat->Option Nat} {gs:Array Goroutine} {w w':World} {t u:Trace} {q:Nat->Nat} {sl:Option (Nat×Nat)}
theorem Tr.renode{bnd:Nat} (h:Tr M S bnd t) {n n':Node} (h0:M 0=some n)(hf:∀a,ZfA n a->ZfA n' a):Tr (upd M 0 (some n')) S bnd t:=by
 refine⟨h.clean,h.seen,fun i a c f j m g=>?_,fun i a c f=>?_⟩
 ·rcases upd_some g with⟨rfl,rfl⟩|⟨_,g⟩;·exact(h.known i a c f 0 n h0).imp id (hf a)
  ·exact h.known i a c f j m g
 ·rcases h.hand i a c f with x|⟨k,m,r,p⟩|x;·exact .inl x
  ·by_cases e:k=0;·subst e;exact .inl p
   ·exact .inr (.inl ⟨k,m,by rw[upd_ne _ _ e];exact r,p⟩)
  ·exact .inr (.inr x)
theorem Co.renode(h:Co E W0 J .run M S gs w t q) {n n':Node} (h0:M 0=some n) {fa:Frame} {ca:List Frame} (hg:gs[0]?=some (G fa ca))(aC:q 0=0)(hR:Rel E n'.sh n'.bs n'.B n'.f n'.cs n'.l fa ca w)(hB:∀b' x,n'.B b' x->∃b,n.B b x/\(n.sh b->n'.sh b')):Co E W0 J .run (upd M 0 (some n')) S gs w t q:=by
 have V:∀a,ZfA n a->ZfA n' a:=fun a V b' x C H=>by obtain⟨b,v,y⟩:=hB b' x C;obtain⟨I,K⟩:=V b x v H;exact⟨y I,K⟩
 have L:∀j,upd M 0 (some n') j≠none->M j≠none:=by
  intro j A;by_cases e:j=0;·subst e;rw[h0];simp
  ·rwa [upd_ne _ _ e]at A
 have R:∀j,upd M 0 (some n') j=none->M j=none:=by
  intro j A;by_cases e:j=0;·subst e;rw[upd_same]at A;cases A
  ·rwa [upd_ne _ _ e]at A
 refine⟨fun i m r=>?_,fun i g r s H=>h.old i g r (R i s) H,fun i r=>h.deaf i (r.imp (L i) id),by rw[upd_same];simp,fun i j m m' b c x aA r A C T=>?_,h.tr.renode h0 V,fun k j m F s=>?_,h.chanS,fun k F s=>h.job k F (s.imp (L k) id),h.one,h.fresh,fun k p hp=>?_,(by intro c zz aD;cases aD),fun k j m F A s=>?_,fun i m b x r C H=>?_,h.keep,h.same⟩
 ·rcases upd_some r with⟨rfl,rfl⟩|⟨_,r⟩;·exact⟨fa,ca,G fa ca,hg,.inl ⟨aC,rfl⟩,hR⟩
  ·exact h.live i m r
 ·rcases upd_some r with⟨e1,rfl⟩|⟨Z,N⟩<;>rcases upd_some A with⟨e2,rfl⟩|⟨aB,O⟩;·omega
  ·obtain⟨Q,v,y⟩:=hB b x C;obtain⟨I,K⟩:=h.apart 0 j n m' Q c x (fun e=>aB e.symm) h0 O v T;exact⟨y I,K⟩
  ·obtain⟨c1,v,y⟩:=hB c x T;obtain⟨I,K⟩:=h.apart i 0 m n b c1 x Z N h0 C v;exact⟨I,y K⟩
  ·exact h.apart i j m m' b c x aA N O C T
 ·rcases upd_some s with⟨rfl,rfl⟩|⟨_,s⟩;·exact h.chanM 0 j n F h0
  ·exact h.chanM k j m F s
 ·obtain⟨v,y⟩:=h.excl k p hp;exact⟨by rw[upd_ne _ _ Qa];exact v,y⟩
 ·rcases upd_some s with⟨rfl,rfl⟩|⟨_,s⟩;·omega
  ·exact h.stops k j m F A s
 ·rcases upd_some r with⟨rfl,rfl⟩|⟨_,r⟩;·obtain⟨Q,v,y⟩:=hB b x C;exact y (h.base 0 n Q x h0 v H)
  ·exact h.base i m b x r C H
theorem Co.park(h:Co E W0 J .run M S gs w t q) {n T:Node} (h0:M 0=some T) {fa:Frame} {ca:List Frame} (K:gs[0]?=some (G fa ca))(y:q 0=0) {k:Nat} {j:Job} (s:0<k)(Q:J k=some j)(O:M k=some n)(zz:Value):Co E W0 J (.park j.ch zz) M S (gs.setIfInBounds 0 (parked (G fa ca) #[rcase j.ch zz] (.recv false))) w t q:=by
 have v:0<gs.size:=(Zyy.1 K).1;refine⟨fun i m p=>?_,fun i g p R L=>?_,fun i p=>h.deaf i (p.imp id fun x=>by simpa using x),h.zero,h.apart,h.tr,h.chanM,h.chanS,h.job,h.one,h.fresh,h.excl,fun c V A=>?_,h.stops,h.base,h.keep,h.same⟩
 ·obtain⟨H,C,g,r,f,I⟩:=h.live i m p;by_cases e:i=0
  ·subst e;rw[K]at r;rcases f with⟨_,f⟩|⟨f,_⟩;case inr=>omega
   have F:=(ZB9 r).trans f;have N:fa=H/\ca=C:=by simp only[ZbP,G,Goroutine.mk.injEq,and_true]at F;exact F
   obtain⟨rfl,rfl⟩:=N;exact⟨fa,ca,_,by rw[ZyH v];rfl,.inl ⟨y,rfl⟩,I⟩
  ·refine⟨H,C,g,by rw[ZyG (fun x=>e x.symm)];exact r,?_,I⟩;unfold ZfB at f |-;rw[Zij (ZBU e)]at f |-;exact f
 ·rw[ZyG Qa]at L;exact h.old i g p R L
 ·cases A;exact⟨k,j,n,s,Q,rfl,O⟩
theorem Co.take(aL:E.sh=true)(h:Co E W0 J .run M S gs w t q) {I:Node} (h0:M 0=some I) {fa:Frame} {ca:List Frame} (hg:gs[0]?=some (G fa ca))(aU:q 0=0) {k p:Nat} {j:Job} (hj:J k=some j)(hS:S k=some p) {v:Value} (hv:ZbA 8 v=true)(hc:w.heap[j.ch]?=some (.chan 1 #[v] false 1 0 false)) {fn:FuncId} {pos:String}:Co E W0 J .run (upd M 0 (some {I with f:=I.f.finish v})) (upd S k none) (gs.setIfInBounds 0 (G (fa.finish v) ca)) (w.setChan j.ch 1 #[] false 1 1 false)
   (t++#[{g:=0,fn,pos,act:=.recv j.ch 0 1},{g:=0,fn,pos,act:=.recvDone j.ch 0}]) q:=by
 have aE:j.ch<w.heap.size:=(Zyy.1 hc).1;have aG:0<gs.size:=(Zyy.1 hg).1;have hk:M k=none/\0<k:=h.excl k p hS;have aQ:Deaf t 0=0:=h.deaf 0 (.inl (by rw[h0];simp));have aA:∀{i:Nat} {m:Node} {b x:Nat},M i=some m->m.B b x->x≠j.ch:=by intro i m b x r O e;exact h.chan_free r hc b (e▸O)
 have aZ:=h.fresh k j hj;obtain⟨v0,_,_,⟨aX,aB,aH⟩,aI⟩:=h.chanS k j p hj hS;have aK:=lt_size_of_getElem? aB;have H:(w.setChan j.ch 1 #[] false 1 1 false).heap.size=w.heap.size:=by simp[World.setChan]
 generalize V:({g:=0,fn,pos,act:=.recv j.ch 0 1}:MemOp)=L;generalize K:({g:=0,fn,pos,act:=.recvDone j.ch 0}:MemOp)=N;have hT:Tr M S w.heap.size (t++#[L,N]):=Zm [L,N] h.tr (by simp[<-V,<-K,MemAct.touch?,MemAct.low,aE]);have hn:∀Z∈(#[L,N]:Trace),Z.act.touch?=none:=by simp[<-V,<-K,MemAct.touch?]
 have aS:∀Z∈(#[L,N]:Trace),Z.act≠.mark .disable/\Z.act≠.mark .enable:=by simp[<-V,<-K]
 have aT:∀Z∈(#[L]:Trace),Z.act≠.mark .disable/\Z.act≠.mark .enable:=by simp[<-V]
 have g1:(t++#[L,N])[t.size+1]?=some N:=Zd3 (t:=t) (u:=#[L,N]) (i:=1) rfl;have e1:t++#[L,N]=(t++#[L])++#[N]:=by apply Array.ext';simp
 have d1:(t++#[L,N]).deaf 0 (t.size+1)=0:=by
  rw[e1,deaf_old Qd];have:(t++#[L]).size=t.size+1:=Qd
  rw[<-this];exact(Zd4 t 0 _ aT).trans aQ
 have hD:∀g,Deaf (t++#[L,N]) g=Deaf t g:=fun g=>Zd4 t g _ aS;have aC:∀i,Before t i p->Knows (t++#[L,N]) 0 i:=fun i r=>Zk7 (c:=j.ch) (x:=aX) (by rw[getElem?_append_old aK];exact aB) aH ((heard_old aK).2 aI) g1 (by rw[<-K]) (by rw[<-K]) (ZfC g1 (by rw[<-K]) d1) (r.app _);obtain⟨aO,aM,x',aF,aD,aV⟩:=h.live 0 I h0;rw[hg]at aF;rcases aD with⟨_,aD⟩|⟨aY,_⟩;case inr=>omega
 have he:=(ZB9 aF).trans aD;have aN:fa=aO/\ca=aM:=by simp only[ZbP,G,Goroutine.mk.injEq,and_true]at he;exact he
 obtain⟨rfl,rfl⟩:=aN;have R:∀i m,upd M 0 (some {I with f:=I.f.finish v}) i=some m->∃m',M i=some m'/\m'.B=m.B/\m'.sh=m.sh:=by
  intro i m r;rcases upd_some r with⟨rfl,rfl⟩|⟨_,r⟩;·exact⟨I,h0,rfl,rfl⟩
  ·exact⟨m,r,rfl,rfl⟩
 refine⟨fun i m r=>?_,fun i x r C hx=>?_,fun i r=>?_,by rw[upd_same];simp,fun a b m m' c d x aP ha O hc hd=>?_,⟨hT.clean,by rw[H];exact hT.seen,fun i a ha C x m hx=>?_,fun i a ha C=>?_⟩,fun i j' m r C=>?_,fun i j' p' r hp=>?_,fun i r C=>?_,h.one,h.fresh,fun i p' hp=>?_,(by intro c zz aW;cases aW),fun i j' m r aR C=>?_,fun i m b x C O hx=>?_,?_,h.same⟩
 ·rcases upd_some r with⟨rfl,rfl⟩|⟨A,r⟩;·refine⟨fa.finish v,ca,_,by rw[ZyH aG];rfl,.inl ⟨aU,rfl⟩,?_⟩;have s:Rel E I.sh I.bs I.B I.f I.cs I.l fa ca (w.setChan j.ch 1 #[] false 1 1 false):=Zc9 aL aV (by rw[H];exact ZBF _) fun b x O=>ZbD (aA h0 O);exact⟨s.st.top (s.st.head.finish (VR.closed 8 v hv)) (Blk.le_refl _) (Zdr _ _),s.wr,s.low⟩
  ·obtain⟨fi,ci,x,F,Q,s⟩:=h.live i m r;exact⟨fi,ci,x,by rw[ZyG (fun e=>A e.symm)];exact F,Q,Zc9 aL s (by rw[H];exact ZBF _) fun b x O=>ZbD (aA r O)⟩
 ·have A:i≠0:=Qa
  rw[upd_ne _ _ A]at C;rw[ZyG (fun e=>A e.symm)]at hx;rw[hD];exact h.old i x r C hx
 ·rw[hD];refine h.deaf i (r.imp (fun x=>?_) fun x=>by simpa using x);by_cases A:i=0;·subst A;rw[h0];simp
  ·rwa [upd_ne _ _ A]at x
 ·obtain⟨m1,F,s,Q⟩:=R a m ha;obtain⟨m2,h4,h5,h6⟩:=R b m' O;have:=h.apart a b m1 m2 c d x aP F h4 (s▸hc) (h5▸hd);rw[Q,h6]at this;exact this
 ·obtain⟨m1,F,s,Q⟩:=R x m hx;refine(hT.known i a ha C x m1 F).imp id fun hf b y O hy=>?_;have:=hf b y (by rw[s];exact O) hy;rw[Q]at this;exact this
 ·rcases h.tr.hand i a (ZgE hn ha) C with x|⟨i',m,F,s⟩|⟨i',p',F,s⟩;·exact .inl (x.app _)
  ·by_cases A:i'=0;·subst A;exact .inl (s.app _)
   ·exact .inr (.inl ⟨i',m,by rw[upd_ne _ _ A];exact F,s.app _⟩)
  ·by_cases e:i'=k;·subst e;rw[hS]at F;cases F;exact .inl (aC i s)
   ·exact .inr (.inr ⟨i',p',by rw[upd_ne _ _ e];exact F,s.app _⟩)
 ·have T:i≠k:=by rintro rfl;rw[upd_ne _ _ Qa,hk.1]at C;cases C
  rw[ZbD fun e=>T (h.one i k j' j r hj e)];rcases upd_some C with⟨rfl,rfl⟩|⟨_,C⟩;·exact h.chanM 0 j' I r h0
  ·exact h.chanM i j' m r C
 ·obtain⟨T,hp⟩:=ZbE hp;obtain⟨v',F,s,⟨Z,Q,h4⟩,h5⟩:=h.chanS i j' p' r hp;have aJ:=lt_size_of_getElem? Q;exact⟨v',F,by rw[ZbD fun e=>T (h.one i k j' j r hj e)];exact s,⟨Z,by rw[getElem?_append_old aJ];exact Q,h4⟩,(heard_old aJ).2 h5⟩
 ·refine h.job i r (C.imp (fun x=>by rwa [upd_ne _ _ (show i≠0 by omega)]at x) fun x=>?_);by_cases e:i=k;·subst e;rw[upd_same]at x;exact absurd rfl x
  ·rwa [upd_ne _ _ e]at x
 ·obtain⟨T,hp⟩:=ZbE hp;obtain⟨F,s⟩:=h.excl i p' hp;exact⟨by rw[upd_ne _ _ (show i≠0 by omega)];exact F,s⟩
 ·rcases upd_some C with⟨rfl,rfl⟩|⟨_,C⟩;·omega
  ·exact h.stops i j' m r aR C
 ·obtain⟨m1,F,s,Q⟩:=R i m C;rw[<-Q];exact h.base i m1 b x F (by rw[s];exact O) hx
 ·rw[H];exact⟨h.keep.1,fun x hx=>by rw[ZbD Qa];exact h.keep.2 x hx⟩
end
section
variable {E:Env} {W0:World} {J:Nat->Option Job} {z:Zs} {M:Nat->Option Node} {S:Nat->Option Nat} {gs:Array Goroutine} {w w':World} {t u:Trace} {q:Nat->Nat} {sl:Option (Nat×Nat)}
theorem Rel.fin{sh:Nat->Prop} {bs:List Frame} {B:Blk} {f fa:Frame} {cs ca:List Frame} {l:World} (h:Rel E sh bs B f cs l fa ca w) {v c:Value} (hv:VR E B v c):Rel E sh bs B (f.finish v) cs l (fa.finish c) ca w:=⟨h.st.top (h.st.head.finish hv) (Blk.le_refl _) (Zdr _ _),h.wr,h.low⟩
theorem Co.made(aF:E.sh=true)(h:Co E W0 J .run M S gs w t q) {C:Node} (h0:M 0=some C) {fa:Frame} {ca:List Frame} (hg:gs[0]?=some (G fa ca))(aN:q 0=0) {v:Value} (hv:VR E C.B v v) {o:Obj} (hw:w'.heap=w.heap.push o)(hs:w'.os=w.os/\w'.output=w.output/\w'.tape=w.tape):Co E W0 J .run (upd M 0 (some {C with f:=C.f.finish v})) S ((gs.map (woken E.P (G fa ca) (G (fa.finish v) ca) w')).setIfInBounds 0 (G (fa.finish v) ca)) w' t q:=by
 have aC:0<gs.size:=(Zyy.1 hg).1;have hk:∀x,x<w.heap.size->w'.heap[x]?=w.heap[x]?:=fun x A=>by rw[hw,ZyD A,Zyw A]
 have K:w.heap.size<=w'.heap.size:=by rw[hw];simp
 have V:∀{x:Nat} {o:Obj},w.heap[x]?=some o->x<w.heap.size:=fun h=>(Zyy.1 h).1;have Q:∀{x:Nat} {o:Obj},w.heap[x]?=some o->w'.heap[x]?=some o:=fun A=>by rw[hk _ (V A)];exact A
 obtain⟨aK,aH,x',aB,R,aE⟩:=h.live 0 C h0;rw[hg]at aB;rcases R with⟨_,R⟩|⟨aP,_⟩;case inr=>omega
 have he:=(ZB9 aB).trans R;have aJ:fa=aK/\ca=aH:=by simp only[ZbP,G,Goroutine.mk.injEq,and_true]at he;exact he
 obtain⟨rfl,rfl⟩:=aJ;have N:∀i m,upd M 0 (some {C with f:=C.f.finish v}) i=some m->∃m',M i=some m'/\m'.B=m.B/\m'.sh=m.sh:=by
  intro i m g;rcases upd_some g with⟨rfl,rfl⟩|⟨_,g⟩;·exact⟨C,h0,rfl,rfl⟩
  ·exact⟨m,g,rfl,rfl⟩
 have aA:∀j,upd M 0 (some {C with f:=C.f.finish v}) j≠none->M j≠none:=by
  intro j hj;by_cases e:j=0;·subst e;rw[h0];simp
  ·rwa [upd_ne _ _ e]at hj
 have aO:∀c zz,Zs.run=.park c zz->∃aI aG s r tm,w'.heap[c]?=some (.chan aI aG false s r tm):=by intro c zz T;cases T
 refine⟨fun i m g=>?_,fun i x g p A=>?_,fun i g=>h.deaf i (g.imp (aA i) fun x=>by simpa using x),by rw[upd_same];simp,fun a b m m' c d x aL ha O hc hd=>?_,(h.tr.renode (n':={C with f:=C.f.finish v}) h0 fun a ha=>ha).mono K,fun i Z m g p=>?_,fun i Z p' g hp=>?_,fun i g p=>h.job i g (p.imp (aA i) id),h.one,h.fresh,fun i p' hp=>?_,(by intro c zz T;cases T),fun i Z m g aM p=>?_,fun i m b x p O A=>?_,?_,⟨hs.1.trans h.same.1,hs.2.1.trans h.same.2.1,hs.2.2.trans h.same.2.2⟩⟩
 ·rcases upd_some g with⟨rfl,rfl⟩|⟨I,g⟩;·refine⟨fa.finish v,ca,G (fa.finish v) ca,by rw[ZyH (by simpa using aC)],.inl ⟨aN,rfl⟩,?_⟩;exact(Zc9 aF aE K fun b x O=>hk x (Zc8 aE O).1).fin hv
  ·obtain⟨fi,ci,x,H,L,F⟩:=h.live i m g;exact⟨fi,ci,x,by rw[Zdt I,H,ZB8,L.woken aO],L,Zc9 aF F K fun b x O=>hk x (Zc8 F O).1⟩
 ·have I:i≠0:=Qa
  rw[upd_ne _ _ I]at p;rw[Zdt I]at A;obtain⟨y,hy,rfl⟩:=ZB7.1 A;have aD:=h.old i y g p hy;rw[woken_quitsD aD];exact aD
 ·obtain⟨m1,H,F,L⟩:=N a m ha;obtain⟨m2,h4,h5,h6⟩:=N b m' O;have:=h.apart a b m1 m2 c d x aL H h4 (F▸hc) (h5▸hd);rw[L,h6]at this;exact this
 ·rcases upd_some p with⟨rfl,rfl⟩|⟨_,p⟩;·exact Q (h.chanM 0 Z C g h0)
  ·exact Q (h.chanM i Z m g p)
 ·obtain⟨v',H,F,L,h5⟩:=h.chanS i Z p' g hp;exact⟨v',H,Q F,L,h5⟩
 ·obtain⟨H,F⟩:=h.excl i p' hp;exact⟨by rw[upd_ne _ _ (show i≠0 by omega)];exact H,F⟩
 ·rcases upd_some p with⟨rfl,rfl⟩|⟨_,p⟩;·omega
  ·exact h.stops i Z m g aM p
 ·obtain⟨m1,H,F,L⟩:=N i m p;rw[<-L];exact h.base i m1 b x H (by rw[F];exact O) A
 ·exact⟨ZBG h.keep.1 K,fun x A=>by rw[hk x (ZBJ A h.keep.1)];exact h.keep.2 x A⟩
theorem Co.spawn(h:Co E W0 J .run M S gs w t q) {N nK:Node} (h0:M 0=some N) {fa fc:Frame} {ca cc:List Frame} (hg:gs[0]?=some (G fa ca))(bH:q 0=0) {jb:Job} (aW:J gs.size=none)(bF:nK.bs=jb.bs)(bG:nK.stop=jb.stop)(aY:w.heap[jb.ch]?=some (.chan 1 #[] false 0 0 false))(aF:∀k j,J k=some j->j.ch≠jb.ch)(aB:W0.heap.size<=jb.ch) {child:Goroutine} (aZ:child.status=.running)(bA:∀w,stepG E.P false child w=.go (G fc cc) w #[])(hR:Rel E nK.sh nK.bs nK.B nK.f nK.cs nK.l fc cc w)(hB:∀b x,nK.B b x->nK.sh b/\∃R,N.B R x/\N.sh R) {fn fn':FuncId} {pos:String}:Co E W0 (upd J gs.size (some jb)) .run (upd (upd M 0 (some {N with f:=N.f.finish undef})) gs.size (some nK)) S ((gs.setIfInBounds 0 (G (fa.finish undef) ca)).push child) w (t++#[{g:=0,fn,pos,act:=.go gs.size},{g:=gs.size,fn:=fn',pos,act:=.start}]) (upd q gs.size 1):=by
 have aR:0<gs.size:=(Zyy.1 hg).1;have aL:gs.size≠0:=Qa
 obtain⟨aV,aT,x',aP,aK,aJ⟩:=h.live 0 N h0;rw[hg]at aP;rcases aK with⟨_,aK⟩|⟨bK,_⟩;case inr=>omega
 have he:=(ZB9 aP).trans aK;have aU:fa=aV/\ca=aT:=by simp only[ZbP,G,Goroutine.mk.injEq,and_true]at he;exact he
 obtain⟨rfl,rfl⟩:=aU;have aM:∀i m,M i=some m->i<gs.size:=by intro i m A;obtain⟨_,_,_,s,_⟩:=h.live i m A;exact(Zyy.1 s).1
 have aN:S gs.size=none:=by cases hs:S gs.size with|none=>rfl|some p=>obtain⟨j,hj⟩:=h.job gs.size Qa (.inr (by rw[hs];simp));rw[aW]at hj;cases hj
 have aA:∀k j,upd J gs.size (some jb) k=some j->(k=gs.size/\j=jb)∨(k≠gs.size/\J k=some j):=fun k j=>upd_some;have bB:Deaf t 0=0:=h.deaf 0 (.inl (by rw[h0];simp));have aO:Deaf t gs.size=0:=h.deaf gs.size (.inr (ZBF _));generalize K:({g:=0,fn,pos,act:=.go gs.size}:MemOp)=C;generalize L:({g:=gs.size,fn:=fn',pos,act:=.start}:MemOp)=H;have hT:Tr M S w.heap.size (t++#[C,H]):=Zm [C,H] h.tr (by simp[<-K,<-L,MemAct.touch?,MemAct.low]);have hn:∀op∈(#[C,H]:Trace),op.act.touch?=none:=by simp[<-K,<-L,MemAct.touch?]
 have bD:∀op∈(#[C,H]:Trace),op.act≠.mark .disable/\op.act≠.mark .enable:=by simp[<-K,<-L]
 have bE:∀op∈(#[C]:Trace),op.act≠.mark .disable/\op.act≠.mark .enable:=by simp[<-K]
 have g0:(t++#[C,H])[t.size]?=some C:=by have:=Zd3 (t:=t) (u:=#[C,H]) (i:=0) rfl;rwa [ZBz]at this
 have g1:(t++#[C,H])[t.size+1]?=some H:=Zd3 (t:=t) (u:=#[C,H]) (i:=1) rfl;have e1:t++#[C,H]=(t++#[C])++#[H]:=by apply Array.ext';simp
 have d1:(t++#[C,H]).deaf gs.size (t.size+1)=0:=by
  rw[e1,deaf_old Qd];have:(t++#[C]).size=t.size+1:=Qd
  rw[<-this];exact(Zd4 t gs.size _ bE).trans aO
 have d0:(t++#[C,H]).deaf 0 t.size=0:=by rw[deaf_old (ZBF _)];exact bB
 have hD:∀g,Deaf (t++#[C,H]) g=Deaf t g:=fun g=>Zd4 t g _ bD;have aI:∀i,Knows t 0 i->Knows (t++#[C,H]) gs.size i:=fun i A=>⟨t.size+1,H,g1,by rw[<-L],.inr ((A.hb_new (y:=C) (ZBF _) g0 (by rw[<-K])).trans (.single (.inr ⟨.spawn (child:=gs.size) (by simp[Trace.act?,<-K]) (by simp[Trace.act?,<-L]) (by simp[Trace.g?,<-L]),ZfC g0 (by rw[<-K]) d0,ZfC g1 (by rw[<-L]) d1⟩)))⟩;have I:∀i m,upd (upd M 0 (some {N with f:=N.f.finish undef})) gs.size (some nK) i=some m->(i=gs.size/\m=nK)∨(i≠gs.size/\∃m',M i=some m'/\m'.B=m.B/\m'.sh=m.sh/\(i≠0->m'=m)/\(i=0->m={N with f:=N.f.finish undef}/\m'=N)):=by
  intro i m A;rcases upd_some A with⟨s,v⟩|⟨s,v⟩;·exact .inl ⟨s,v⟩
  ·rcases upd_some v with⟨rfl,rfl⟩|⟨O,Q⟩;·exact .inr ⟨s,N,h0,rfl,rfl,fun e=>absurd rfl e,fun _=>⟨rfl,rfl⟩⟩
   ·exact .inr ⟨s,m,Q,rfl,rfl,fun _=>rfl,fun e=>absurd e O⟩
 have aD:∀i,i≠0->i≠gs.size->((gs.setIfInBounds 0 (G (fa.finish undef) ca)).push child)[i]?=gs[i]?:=by intro i s v;rw[ZyC];rw[if_neg (by simpa using v),ZyG (fun e=>s e.symm)]
 have aG:((gs.setIfInBounds 0 (G (fa.finish undef) ca)).push child)[0]?=some (G (fa.finish undef) ca):=by rw[ZyC,if_neg (by simpa using fun e=>aL e.symm),ZyH aR]
 have aH:((gs.setIfInBounds 0 (G (fa.finish undef) ca)).push child)[gs.size]?=some child:=by rw[ZyC,if_pos Qd]
 refine⟨fun i m A=>?_,fun i x A F hx=>?_,fun i A=>?_,?_,fun a b m m' c d x aX ha hb hc hd=>?_,⟨hT.clean,hT.seen,fun i a ha F x m hx=>?_,fun i a ha F=>?_⟩,fun i V m A F=>?_,fun i V p' A hp=>?_,fun i A F=>?_,fun k k' j V hk bC he=>?_,fun k j hk=>?_,fun i p' hp=>?_,(by intro c zz bI;cases bI),fun i V m A aC F=>?_,fun i m b x F hb hx=>?_,h.keep,h.same⟩
 ·rcases I i m A with⟨rfl,rfl⟩|⟨r,m',s,v,O,Q,Z⟩;·exact⟨fc,cc,child,aH,.inr ⟨Qa,upd_same _ _ _,aZ,bA⟩,hR⟩
  ·by_cases e:i=0;·subst e;obtain⟨rfl,rfl⟩:=Z rfl;exact⟨fa.finish undef,ca,G (fa.finish undef) ca,aG,.inl ⟨by rw[upd_ne _ _ r];exact bH,rfl⟩,aJ.fin undefR⟩
   ·obtain rfl:=Q e;obtain⟨fi,ci,y,g1,g2,g3⟩:=h.live i m' s;exact⟨fi,ci,y,by rw[aD i e r];exact g1,by rw[upd_ne _ _ r];exact g2,g3⟩
 ·have T:i≠0:=Qa
  have r:i≠gs.size:=by rintro rfl;rw[upd_same]at F;cases F
  rw[upd_ne _ _ r,upd_ne _ _ T]at F;rw[aD i T r]at hx;rw[hD,upd_ne _ _ r];exact h.old i x A F hx
 ·rw[hD];by_cases r:i=gs.size;·subst r;exact aO
  ·refine h.deaf i (A.imp (fun x=>?_) fun x=>by simp at x;omega);rw[upd_ne _ _ r]at x;by_cases e:i=0;·subst e;rw[h0];simp
   ·rwa [upd_ne _ _ e]at x
 ·rw[upd_ne _ _ (fun e=>aL e.symm),upd_same];simp
 ·rcases I a m ha with⟨ea,rfl⟩|⟨bL,m1,s,v,O,_⟩<;>rcases I b m' hb with⟨eb,rfl⟩|⟨bM,m2,Q,Z,h6,_⟩;·omega
  ·obtain⟨k1,R,k2,k3⟩:=hB c x hc;refine⟨k1,?_⟩;rw[<-h6];by_cases e:b=0;·subst e;rw[h0]at Q;cases Q;have:R=d:=aJ.wr.inj R d x k2 (by rw[Z];exact hd);rw[<-this];exact k3
   ·exact(h.apart 0 b N m2 R d x (fun y=>e y.symm) h0 Q k2 (by rw[Z];exact hd)).2
  ·obtain⟨k1,R,k2,k3⟩:=hB d x hd;refine⟨?_,k1⟩;rw[<-O];by_cases e:a=0;·subst e;rw[h0]at s;cases s;have:R=c:=aJ.wr.inj R c x k2 (by rw[v];exact hc);rw[<-this];exact k3
   ·exact(h.apart a 0 m1 N c R x e s h0 (by rw[v];exact hc) k2).1
  ·have:=h.apart a b m1 m2 c d x aX s Q (by rw[v];exact hc) (by rw[Z];exact hd);rw[O,h6]at this;exact this
 ·rcases I x m hx with⟨rfl,rfl⟩|⟨_,m1,s,v,O,_⟩
  ·rcases h.tr.known i a (ZgE hn ha) F 0 N h0 with hk|hf;·exact .inl (aI i hk)
   ·refine .inr fun b y hb hy=>?_;obtain⟨k1,R,k2,k3⟩:=hB b y hb;exact⟨k1,(hf R y k2 hy).2⟩
  ·refine(hT.known i a ha F x m1 s).imp id fun hf b y hb hy=>?_;have:=hf b y (by rw[v];exact hb) hy;rw[O]at this;exact this
 ·rcases h.tr.hand i a (ZgE hn ha) F with x|⟨i',m,s,v⟩|⟨i',p',s,v⟩;·exact .inl (x.app _)
  ·by_cases T:i'=0;·subst T;exact .inl (v.app _)
   ·refine .inr (.inl ⟨i',m,?_,v.app _⟩);have:=aM i' m s;rw[upd_ne _ _ (show i'≠gs.size by omega),upd_ne _ _ T];exact s
  ·exact .inr (.inr ⟨i',p',s,v.app _⟩)
 ·rcases aA i V A with⟨rfl,rfl⟩|⟨r,A⟩;·exact aY
  ·rcases I i m F with⟨e,_⟩|⟨_,m1,s,_⟩;·exact absurd e r
   ·exact h.chanM i V m1 A s
 ·have r:i≠gs.size:=by rintro rfl;rw[aN]at hp;cases hp
  rw[upd_ne _ _ r]at A;obtain⟨v',s,v,⟨op,O,Q⟩,Z⟩:=h.chanS i V p' A hp;have aS:=lt_size_of_getElem? O;exact⟨v',s,v,⟨op,by rw[getElem?_append_old aS];exact O,Q⟩,(heard_old aS).2 Z⟩
 ·by_cases r:i=gs.size;·subst r;exact⟨jb,upd_same _ _ _⟩
  ·rw[upd_ne _ _ r];refine h.job i A (F.imp (fun x=>?_) id);rwa [upd_ne _ _ r,upd_ne _ _ Qa]at x
 ·rcases aA k j hk with⟨e1,e2⟩|⟨bN,aQ⟩<;>rcases aA k' V bC with⟨e3,e4⟩|⟨bJ,aE⟩;·rw[e1,e3]
  ·exact absurd (by rw[<-e2];exact he.symm) (aF k' V aE)
  ·exact absurd (by rw[<-e4];exact he) (aF k j aQ)
  ·exact h.one k k' j V aQ aE he
 ·rcases aA k j hk with⟨rfl,rfl⟩|⟨_,hk⟩;·exact aB
  ·exact h.fresh k j hk
 ·have r:i≠gs.size:=by rintro rfl;rw[aN]at hp;cases hp
  obtain⟨s,v⟩:=h.excl i p' hp;exact⟨by rw[upd_ne _ _ r,upd_ne _ _ (show i≠0 by omega)];exact s,v⟩
 ·rcases I i m F with⟨rfl,rfl⟩|⟨r,m1,s,v,O,Q,Z⟩;·rw[upd_same]at aC;cases aC;exact⟨bG,bF⟩
  ·rw[upd_ne _ _ r]at aC;obtain rfl:=Q Qa;exact h.stops i V m1 A aC s
 ·rcases I i m F with⟨rfl,rfl⟩|⟨r,m1,s,v,O,Q,Z⟩;·exact(hB b x hb).1
  ·rw[<-O];exact h.base i m1 b x s (by rw[v];exact hb) hx
end
structure Ready (E:Env)(W0:World)(J:Nat->Option Job)(U:Nat->Prop)(Ch:Option Nat)(n:Node)(M:Nat->Option Node)(S:Nat->Option Nat)(gs:Array Goroutine)(w:World)(t:Trace)(q:Nat->Nat)(fa:Frame)(ca:List Frame):Prop where
 co:Co E W0 J .run M S gs w t q
 tree:W E (upd M 0 none)
 halts:∀i m,0<i->M i=some m->Halts m.stop
 un:Un U M S
 node:∃s,M 0=some {n with stop:=s}
 gs0:gs[0]?=some (G fa ca)
 q0:q 0=0
 rel:Rel E n.sh n.bs n.B n.f n.cs n.l fa ca w
 pend:∀c,Ch=some c->w.heap[c]?=some (.chan 1 #[] false 0 0 false)/\W0.heap.size<=c/\∀k j,J k=some j->j.ch≠c
 jlt:∀k j,J k=some j->k<gs.size/\j.ch<w.heap.size
def Zdu(E:Env)(W0:World)(J:Nat->Option Job)(U:Nat->Prop)(Ch:Option Nat)(Post:Value->World->Prop)(n:Node):Prop:=∀{M:Nat->Option Node} {S:Nat->Option Nat} {gs:Array Goroutine} {w:World} {sl:Option (Nat×Nat)} {t:Trace} {q:Nat->Nat} {fa:Frame} {ca:List Frame},Ready E W0 J U Ch n M S gs w t q fa ca->ZgF E.P Post gs w sl t 0
def KGo(E:Env)(W0:World)(J:Nat->Option Job)(U:Nat->Prop)(Ch:Option Nat)(Post:Value->World->Prop)(n:Node):Prop:=∀{M:Nat->Option Node} {S:Nat->Option Nat} {gs:Array Goroutine} {w:World} {sl:Option (Nat×Nat)} {t:Trace} {q:Nat->Nat} {fa:Frame} {ca:List Frame},Ready E W0 J U Ch n M S gs w t q fa ca->Fin E.P Post gs w sl t
section
variable {E:Env} {W0:World} {J:Nat->Option Job} {U:Nat->Prop} {Ch:Option Nat} {Post:Value->World->Prop} {n:Node}
theorem Zt{M:Nat->Option Node} {S:Nat->Option Nat} {gs:Array Goroutine} {w:World} {t:Trace} {q:Nat->Nat} {fa:Frame} {ca:List Frame} (h:Ready E W0 J U Ch n M S gs w t q fa ca)(s:Frame->List Frame->World->Prop):Co E W0 J .run (upd M 0 (some {n with stop:=s})) S gs w t q:=by obtain⟨j,f⟩:=h.node;exact h.co.renode f h.gs0 h.q0 h.rel fun c x g=>⟨c,g,id⟩
theorem ZqE(hG:E.Fine)(O:E.sh=true)(hJ:∀k j,J k=some j->ZcP E j) {Stop:Frame->List Frame->World->Prop} (hS:Halts Stop)(hL:LG E Stop n.f n.cs n.l)(k:∀n',n'.sh=n.sh->n'.bs=n.bs->n.B.le n'.B->Stop n'.f n'.cs n'.l->Zdu E W0 J U Ch Post n'):KGo E W0 J U Ch Post n:=by
 intro M S gs w sl t q fa ca h;have T:=Zt h Stop;have hT:W E (upd M 0 (some {n with stop:=Stop})):=by have:=h.tree.add hL (upd_same _ _ _) n.sh n.bs n.B;rwa [Zcl]at this
 obtain⟨s0,h0⟩:=h.node;refine Zil (U:=U) hG O hJ hT T (fun i m p=>?_) (fun x hx=>?_) ?_ (by intro _ _ _ _ _ _ _ _ _ _ _ _ e;cases e)
 ·rcases upd_some p with⟨_,rfl⟩|⟨A,p⟩;·exact hS
  ·exact h.halts i m (ZBU A) p
 ·rw[upd_ne _ _ Qa];exact h.un x hx
 ·intro M' S' aA w' aB t' q' n' Z V _ F K v s I Q r y L N H;obtain⟨n1,A,h2,h3,h4,h5⟩:=v.node 0 n' r;rw[upd_same]at A;cases A;refine k n' h2 h3 h5 (by rw[h4]at y;exact y) ⟨F,K,fun i m p hm=>?_,I,⟨n'.stop,r⟩,L,N,H,fun c hc=>?_,fun k' j hj=>?_⟩;·obtain⟨m1,g,_,_,g4,_⟩:=v.node i m hm;rw[upd_ne _ _ Qa]at g;rw[g4];exact h.halts i m1 p g
  ·obtain⟨g,C,R⟩:=h.pend c hc;refine⟨?_,C,R⟩;rw[(s.2 c (Zyy.1 g).1 (fun i m b p hb=>absurd hb (T.chan_free p g b)) R).1];exact g
  ·obtain⟨g,C⟩:=h.jlt k' j hj;exact⟨by rw[Q];exact g,ZBJ C s.1⟩
theorem Co.offers_send{z:Zs} {M:Nat->Option Node} {S:Nat->Option Nat} {gs:Array Goroutine} {w:World} {t:Trace} {q:Nat->Nat} (h:Co E W0 J z M S gs w t q)(c:Nat):partners (gs.setIfInBounds 0 ph) c true=[]:=by
 refine partners_nil fun j g m=>?_;rcases getElem?_stand gs 0 j g m with⟨rfl,rfl⟩|⟨p,m⟩;·rfl
 ·rcases h.status m with f|f|⟨e,_⟩;·exact offersAt_of_not_blocked (by rw[f];simp) _ _
  ·exact offersAt_of_not_blocked (by rw[f];simp) _ _
  ·exact absurd e p
theorem ZqF(hG:E.Fine)(aC:E.sh=true)(hJ:∀k j,J k=some j->ZcP E j) {k:Nat} {j:Job} (hk:0<k)(T:J k=some j)(hU:U k)(hV:∀v,j.V v->ZbA 8 v=true)(hst:∀{fa:Frame} {ca:List Frame} {w:World},Rel E n.sh n.bs n.B n.f n.cs n.l fa ca w->∃zz,stepG E.P true (G fa ca) w=.comm (G fa ca) #[rcase j.ch zz] true (.recv false) w #[])(kk:∀v,j.V v->KGo E W0 J (fun x=>U x/\x≠k) none Post {n with f:=n.f.finish v}):Zdu E W0 J U none Post n:=by intro M S gs w sl t q fa ca h;obtain⟨zz,N⟩:=hst h.rel;obtain⟨s0,h0⟩:=h.node;have I:0<gs.size:=(Zyy.1 h.gs0).1;have s:stepG E.P (0==0) (G fa ca) w=.comm (G fa ca) #[rcase j.ch zz] true (.recv false) w #[]:=N;cases hS:S k with
 |some p=>
  obtain⟨v,hv,H,_,_⟩:=h.co.chanS k j p T hS;have r:=crowd_recv_buf (P:=E.P) (sl:=sl) (shape:=.recv false) h.gs0 s H Qd (h.co.offers_send j.ch);rw[Zd2]at r;simp only[Array.empty_append]at r;have C:=h.co.take aC h0 h.gs0 h.q0 T hS (hV v hv) H (fn:=(G fa ca).frame.fn) (pos:=(G fa ca).frame.place);have Q:M k=none:=(h.co.excl k p hS).1;refine⟨_,_,_,_,r,kk v hv (fa:=fa.finish v) (ca:=ca) ⟨C,by rw[Zcl];exact h.tree,fun i m O hm=>?_,fun x hx=>?_,⟨s0,upd_same _ _ _⟩,?_,h.q0,?_,(by intro c H;cases H),fun k' j' F=>?_⟩⟩;·rw[upd_ne _ _ Qa]at hm;exact h.halts i m O hm
  ·rw[upd_ne _ _ (show x≠0 by omega)];by_cases e:x=k;·subst e;rw[upd_same,Q];simp
   ·rw[upd_ne _ _ e,h.un x hx];simp[e]
  ·exact ZyH I
  ·obtain⟨L,K,g,R,A,g3⟩:=C.live 0 _ (upd_same _ _ _);rw[ZyH I]at R;rcases A with⟨_,A⟩|⟨A,_⟩;case inr=>omega
   have e:=(ZB9 R).trans A;have e2:fa.finish v=L/\ca=K:=by simp only[ZbP,G,Goroutine.mk.injEq,and_true]at e;exact e
   obtain⟨rfl,rfl⟩:=e2;exact g3
  ·obtain⟨R,A⟩:=h.jlt k' j' F;exact⟨by simpa using R,by simpa [World.setChan] using A⟩|none=>
  have Q:M k≠none:=by
   rcases(h.un k hk).1 hU with x|x;·exact x
   ·exact absurd hS x
  obtain⟨m,hm⟩:∃m,M k=some m:=by cases e:M k with
   |none=>exact absurd e Q|some m=>exact⟨m,rfl⟩
  let Stop:Frame->List Frame->World->Prop:=fun f cs _=>cs≠[]/\∀c,f.mode≠.panicking c;have aH:Halts Stop:=⟨fun f cs l h=>h,fun f cs l t d h=>h⟩;have aD:Stop n.f n.cs n.l:=by refine⟨?_,h.rel.st.head.noPanic.1⟩;have:=h.rel.st;intro e;rw[e]at this;cases this with|cons _ _ _ _ _ _ hs=>cases hs
  have aF:=Zt h Stop;have aJ:W E (upd M 0 (some {n with stop:=Stop})):=by have:=h.tree.add (LG.stop n.f n.cs n.l aD) (upd_same _ _ _) n.sh n.bs n.B;rwa [Zcl]at this
  have aA:upd M 0 (some {n with stop:=Stop}) k=some m:=by rw[upd_ne _ _ Qa];exact hm
  have aG:=aF.park (upd_same _ _ _) h.gs0 h.q0 hk T aA zz;have H:=h.co.chanM k j m T hm;have r:=crowd_waits (P:=E.P) (sl:=sl) (shape:=.recv false) h.gs0 s (by
   intro cc aM;obtain rfl:cc=rcase j.ch zz:=by simpa using aM
   exact ways_recv_none H (h.co.offers_send j.ch));rw[Zd2]at r;refine⟨_,_,_,_,r,?_⟩;rw[Zyn];refine Zil (U:=U) hG aC hJ aJ aG (fun i m' O=>?_) (fun x hx=>?_) (by intro _ _ _ _ _ _ _ _ _ _ e;cases e) ?_
  ·rcases upd_some O with⟨_,rfl⟩|⟨h1,O⟩;·exact aH
   ·exact h.halts i m' (ZBU h1) O
  ·rw[upd_ne _ _ Qa];exact h.un x hx
  ·intro M' S' aU w' aV t' q' n1 v aW k' j' hz F hv aB aI C aL Z aT aK aS aE;have aO:j'.ch=j.ch:=by simp only[Zs.park.injEq]at hz;exact hz.1.symm
   have aP:k'=k:=h.co.one k' k j' j F T aO;subst aP;rw[T]at F;cases F;rw[upd_same]at aB;cases aB;obtain⟨L,K,g,R,A,g3⟩:=C.live 0 _ Z;rcases A with⟨aR,A⟩|⟨A,_⟩;case inr=>omega
   have e:g=G L K:=A;subst e;refine kk v hv ⟨C,aL,fun i m' O aQ=>?_,fun x hx=>?_,⟨_,Z⟩,R,aR,g3,(by intro c H;cases H),fun k2 j2 aN=>?_⟩;·obtain⟨m1,q1,_,_,q4,_⟩:=aI.node i m' (by rw[upd_ne _ _ Qa];exact aQ);rw[upd_ne _ _ Qa]at q1;rw[q4];exact h.halts i m1 O q1
   ·obtain⟨u1,u2⟩:=aK x hx;constructor;·rintro⟨a1,a2⟩;cases e1:M' x with|some _=>exact .inl Qd|none=>cases e2:S' x with
      |some _=>exact .inr Qd|none=>
       rcases u1 e2 e1 with y|y;·exact absurd a1 y
       ·exact absurd y a2
    ·exact u2
   ·obtain⟨g4,g5⟩:=h.jlt k2 j2 aN;exact⟨by rw[aS];simpa using g4,ZBJ g5 aE⟩
end
section
variable {E:Env} {W0:World} {J:Nat->Option Job} {U:Nat->Prop} {Ch:Option Nat} {Post:Value->World->Prop} {n:Node}
theorem ZqG(r:E.sh=true)(hst:∀{fa:Frame} {ca:List Frame} {w:World},Rel E n.sh n.bs n.B n.f n.cs n.l fa ca w->stepG E.P true (G fa ca) w=.go (G (fa.finish (.chan (some w.heap.size))) ca) (w.alloc (.chan 1 #[] false 0 0 false)) #[])(V:∀c,W0.heap.size<=c->KGo E W0 J U (some c) Post {n with f:=n.f.finish (.chan (some c))}):Zdu E W0 J U none Post n:=by
 intro M S gs w sl t q fa ca h;obtain⟨Z,F⟩:=h.node;have p:0<gs.size:=(Zyy.1 h.gs0).1;have O:stepG E.P (0==0) (G fa ca) w=_:=hst h.rel;have g:=runT_crowd_go (P:=E.P) (sl:=sl) (i:=0) h.gs0 O;rw[Zd2]at g;have v:=h.co.made (w':=w.alloc (.chan 1 #[] false 0 0 false)) r F h.gs0 h.q0 (VR.chan (some w.heap.size)) rfl ⟨rfl,rfl,rfl⟩;have s:(w.alloc (.chan 1 #[] false 0 0 false)).heap.size=w.heap.size+1:=Qd
 refine⟨_,_,_,_,g,?_⟩;rw[Zyn];refine V w.heap.size h.co.keep.1 (fa:=fa.finish (.chan (some w.heap.size))) (ca:=ca) ⟨v,by rw[Zcl];exact h.tree,fun i m L A=>?_,fun x Q=>?_,⟨Z,upd_same _ _ _⟩,?_,h.q0,?_,fun c K=>?_,fun T R y=>?_⟩;·rw[upd_ne _ _ Qa]at A;exact h.halts i m L A
 ·rw[upd_ne _ _ (show x≠0 by omega)];exact h.un x Q
 ·exact ZyH (by simpa using p)
 ·have H:Rel E n.sh n.bs n.B n.f n.cs n.l fa ca (w.alloc (.chan 1 #[] false 0 0 false)):=Zc9 r h.rel (by rw[s];omega) fun b x I=>by have:=(Zc8 h.rel I).1;show (w.heap.push _)[x]?=_;rw[ZyD this,Zyw this]
  exact H.fin (VR.chan _)
 ·obtain rfl:=ZB9 K;refine⟨?_,h.co.keep.1,fun k j N e=>?_⟩;·show (w.heap.push _)[w.heap.size]?=_;simp
  ·have:=(h.jlt k j N).2;omega
 ·obtain⟨C,g2⟩:=h.jlt T R y;exact⟨by simpa using C,by rw[s];omega⟩
theorem ZqH{c:Nat} {jb:Job} (F:jb.ch=c) {nK:Node} (C:nK.stop=jb.stop)(V:nK.bs=jb.bs)(hH:Halts jb.stop)(hL:LG E jb.stop nK.f nK.cs nK.l)(hB:∀b x,nK.B b x->nK.sh b/\∃b',n.B b' x/\n.sh b')(hst:∀{fa:Frame} {ca:List Frame} {w:World},Rel E n.sh n.bs n.B n.f n.cs n.l fa ca w->∃g N L,stepG E.P true (G fa ca) w=.spawn (G (fa.finish undef) ca) g w #[]/\g.status=.running/\(∀w,stepG E.P false g w=.go (G N L) w #[])/\Rel E nK.sh nK.bs nK.B nK.f nK.cs nK.l N L w)(kk:∀K,0<K->J K=none->KGo E W0 (upd J K (some jb)) (fun x=>U x∨x=K) none Post {n with f:=n.f.finish undef}):Zdu E W0 J U (some c) Post n:=by
 intro M S gs w sl t q fa ca h;obtain⟨s0,h0⟩:=h.node;have s:0<gs.size:=(Zyy.1 h.gs0).1;obtain⟨g,N,L,hs,R,T,hR⟩:=hst h.rel;obtain⟨p1,p2,p3⟩:=h.pend c rfl;have Z:stepG E.P (0==0) (G fa ca) w=_:=hs;have v:=runT_crowd_spawn (P:=E.P) (sl:=sl) (i:=0) h.gs0 Z;rw[Zd2]at v;have y:J gs.size=none:=by cases e:J gs.size with|none=>rfl|some j=>exact absurd (h.jlt _ j e).1 (ZBI _)
 have O:=h.co.spawn h0 h.gs0 h.q0 y V C (by rw[F];exact p1) (fun k j H=>by rw[F];exact p3 k j H) (by rw[F];exact p2) R T hR hB (fn:=(G fa ca).frame.fn) (fn':=g.frame.fn) (pos:=(G fa ca).frame.place);have Q:M gs.size=none:=by cases e:M gs.size with
  |none=>rfl|some m=>obtain⟨_,_,_,g1,_⟩:=h.co.live _ m e;exact absurd (Zyy.1 g1).1 (ZBI _)
 have aA:S gs.size=none:=by cases e:S gs.size with|none=>rfl|some p=>obtain⟨j,H⟩:=h.co.job gs.size s (.inr (by rw[e];simp));rw[y]at H;cases H
 have r:gs.size≠0:=Qa
 refine⟨_,_,_,_,v,kk gs.size s y (fa:=fa.finish undef) (ca:=ca) ⟨O,?_,fun i m hi I=>?_,fun x hx=>?_,⟨s0,?_⟩,?_,?_,h.rel.fin undefR,(by intro c F;cases F),fun k' j' A=>?_⟩⟩;·rw[Zd5 _ r,Zcl];have:=h.tree.add hL (i:=gs.size) (by rw[upd_ne _ _ r];exact Q) nK.sh nK.bs nK.B;rw[<-C]at this;exact this
 ·rcases upd_some I with⟨rfl,rfl⟩|⟨_,I⟩;·rw[C];exact hH
  ·rw[upd_ne _ _ Qa]at I;exact h.halts i m hi I
 ·by_cases e:x=gs.size;·subst e;rw[upd_same];simp
  ·rw[upd_ne _ _ e,upd_ne _ _ Qa];simp only[e,or_false];exact h.un x hx
 ·rw[upd_ne _ _ (fun e=>r e.symm),upd_same]
 ·rw[ZyC,if_neg (by simpa using fun e=>r e.symm),ZyH s]
 ·rw[upd_ne _ _ (fun e=>r e.symm)];exact h.q0
 ·rcases upd_some A with⟨rfl,rfl⟩|⟨_,A⟩;·refine⟨Qd,?_⟩;rw[F];exact(Zyy.1 p1).1
  ·obtain⟨g1,g2⟩:=h.jlt k' j' A;exact⟨Qk,g2⟩
theorem ZqI{n':Node} (hR:∀{fa:Frame} {ca:List Frame} {w:World},Rel E n.sh n.bs n.B n.f n.cs n.l fa ca w->Rel E n'.sh n'.bs n'.B n'.f n'.cs n'.l fa ca w)(hB:∀b' x,n'.B b' x->∃b,n.B b x/\(n.sh b->n'.sh b'))(k:KGo E W0 J U Ch Post n'):KGo E W0 J U Ch Post n:=by intro M S gs w sl t q fa ca h;obtain⟨r,g⟩:=h.node;exact k ⟨h.co.renode g h.gs0 h.q0 (hR h.rel) hB,by rw[Zcl];exact h.tree,fun i m j c=>by rw[upd_ne _ _ Qa]at c;exact h.halts i m j c,fun x p=>by rw[upd_ne _ _ Qa];exact h.un x p,⟨n'.stop,upd_same _ _ _⟩,h.gs0,h.q0,hR h.rel,h.pend,h.jlt⟩
theorem ZqJ{n':Node} (hR:∀{fa:Frame} {ca:List Frame} {w:World},Rel E n.sh n.bs n.B n.f n.cs n.l fa ca w->Rel E n'.sh n'.bs n'.B n'.f n'.cs n'.l fa ca w)(hB:∀b' x,n'.B b' x->∃b,n.B b x/\(n.sh b->n'.sh b'))(k:Zdu E W0 J U Ch Post n'):Zdu E W0 J U Ch Post n:=by intro M S gs w sl t q fa ca h;obtain⟨r,g⟩:=h.node;exact k ⟨h.co.renode g h.gs0 h.q0 (hR h.rel) hB,by rw[Zcl];exact h.tree,fun i m j c=>by rw[upd_ne _ _ Qa]at c;exact h.halts i m j c,fun x p=>by rw[upd_ne _ _ Qa];exact h.un x p,⟨n'.stop,upd_same _ _ _⟩,h.gs0,h.q0,hR h.rel,h.pend,h.jlt⟩
theorem ZqK{w:World} {gs:Array Goroutine} {sl:Option (Nat×Nat)} {t:Trace} {q:Nat->Nat} {fa:Frame} {ca:List Frame} (h0:gs[0]?=some (G fa ca))(hL:Leavers E.P t gs q)(v:Past (fun _=>False) w.heap.size t)(hR:Rel E n.sh n.bs n.B n.f n.cs n.l fa ca w)(hB:∀b x,n.B b x->n.sh b)(k:KGo E w (fun _=>none) (fun _=>False) none Post n):Fin E.P Post gs w sl t:=by
 have F:0<gs.size:=(Zyy.1 h0).1;refine k (M:=upd (fun _=>none) 0 (some n)) (S:=fun _=>none) (q:=upd q 0 0) (fa:=fa) (ca:=ca) ⟨⟨fun i m h=>?_,fun i g h s H=>?_,fun i h=>?_,by rw[upd_same];simp,fun i j m Z b c x I h r A C=>?_,⟨v.clean,v.seen,fun i a y s j m r=>?_,fun i a y s=>?_⟩,(by intro k j m r;cases r),(by intro k j p r;cases r),fun k K s=>?_,(by intro k V j T r;cases r),(by intro k j r;cases r),(by intro k p L;cases L),(by intro c zz O;cases O),(by intro k j m K r;cases r),fun i m b x h A N=>?_,⟨ZBF _,fun _ _=>rfl⟩,⟨rfl,rfl,rfl⟩⟩,?_,fun i m h s=>?_,fun x N=>?_,⟨n.stop,upd_same _ _ _⟩,h0,upd_same _ _ _,hR,(by intro c C;cases C),(by intro k j r;cases r)⟩
 ·rcases upd_some h with⟨rfl,rfl⟩|⟨_,h⟩;·exact⟨fa,ca,G fa ca,h0,.inl ⟨upd_same _ _ _,rfl⟩,hR⟩
  ·cases h
 ·rw[upd_ne _ _ Qa];exact hL.old i g h H
 ·by_cases e:i=0;·subst e;exact v.hears
  ·rcases h with h|h;·rw[upd_ne _ _ e]at h;exact absurd rfl h
   ·exact hL.above i h
 ·rcases upd_some h with⟨Q,_⟩|⟨_,h⟩
  ·rcases upd_some r with⟨R,_⟩|⟨_,r⟩;·omega
   ·cases r
  ·cases h
 ·rcases upd_some r with⟨rfl,rfl⟩|⟨_,r⟩
  ·rcases v.known i a y s with x|x;·exact .inl x
   ·exact x.1.elim
  ·cases r
 ·rcases v.known i a y s with x|x;·exact .inl x
  ·exact x.1.elim
 ·rw[upd_ne _ _ Qa]at s;rcases s with x|x<;>exact absurd rfl x
 ·rcases upd_some h with⟨rfl,rfl⟩|⟨_,h⟩;·exact hB b x A
  ·cases h
 ·rw[Zcl,Zik _ _ _ rfl];exact W.empty
 ·rw[upd_ne _ _ Qa]at s;cases s
 ·rw[upd_ne _ _ Qa];simp
theorem ZqL(k:∀{w:World} {gs:Array Goroutine} {sl:Option (Nat×Nat)} {t:Trace} {q:Nat->Nat} {fa:Frame} {ca:List Frame},gs[0]?=some (G fa ca)->Leavers E.P t gs q->Past (fun _=>False) w.heap.size t->Rel E n.sh n.bs n.B n.f n.cs n.l fa ca w->W0.heap.size<=w.heap.size->(∀x,x<W0.heap.size->w.heap[x]?=W0.heap[x]?)->w.os=W0.os/\w.output=W0.output/\w.tape=W0.tape->ZgF E.P Post gs w sl t 0)(O:∀x,0<x->¬U x):Zdu E W0 J U Ch Post n:=by
 intro M S gs w sl t q fa ca h;obtain⟨V,N⟩:=h.node;have C:∀i,0<i->M i=none/\S i=none:=by
  intro i s;have:=fun y=>O i s ((h.un i s).2 y);constructor;·cases e:M i with
   |none=>rfl|some _=>exact absurd (.inl (by rw[e];simp)) this
  ·cases e:S i with|none=>rfl|some _=>exact absurd (.inr (by rw[e];simp)) this
 have v:∀i a,touchAt t i=some a->a.loc.isMemory=true->Knows t 0 i:=by
  intro i a F I;rcases h.co.tr.hand i a F I with x|⟨k,m,c,r⟩|⟨k,p,c,r⟩;·exact x
  ·by_cases e:k=0;·subst e;exact r
   ·rw[(C k Qa).1]at c;cases c
  ·have:=(h.co.excl k p c).2;rw[(C k this).2]at c;cases c
 refine k h.gs0 ⟨fun i g s H=>h.co.old i g s (C i s).1 H,fun j R=>h.co.deaf j (.inr R)⟩ ⟨h.co.tr.clean,fun i a F I=>.inl (v i a F I),fun i g H K Q=>?_,h.co.deaf 0 (.inl (by rw[N];simp)),h.co.tr.seen⟩ h.rel h.co.keep.1 h.co.keep.2 h.co.same;obtain⟨x,T,L,_⟩:=Q;obtain⟨p,z,c,r,A⟩:=v i x T L;refine⟨p,by simp[Trace.g?,c,r],?_⟩;rcases A with rfl|A
 ·exfalso;have:z.g=g:=by simpa [Trace.g?,c] using H
  exact K (this.symm.trans r)
 ·exact A
end
end Go.Twin
namespace Go.Twin
open Go.Conc
section
variable {E:Env} {Stop:Frame->List Frame->World->Prop}
theorem LG.re(hS:Halts Stop) {f:Frame} {cs:List Frame} {l:World} (h:LG E Stop f cs l)(t:Nat->Question->Nat)(d:Nat):LG E Stop f cs (l.re t d):=by cases h with|stop f cs l h=>exact .stop _ _ _ (hS.tape _ _ _ t d h)|step f cs l hc hg hs=>exact .step _ _ _ hc (fun g c=>hg g c) fun g c=>hs g c
variable {b:Frame} {a:Act} {k:List Item} {cs:List Frame} {l l':World}
theorem Zd6(hS:Halts Stop) {f g:Frame} {c:List Frame} (j:f.mode=.run->Chk E f)(h:∀w,stepG E.P true (G f cs) w=.go (G g c) w #[])(k:LG E Stop g c l):LG E Stop f cs l:=LG.one j (W:=fun t d=>l.re t d) (es:=fun _ _=>#[]) (fun t d=>h _) fun t d=>k.re hS t d
theorem Zal(hS:Halts Stop) {x y:Code} (h:LG E Stop (b.at a (.code x::.code y::k)) cs l):LG E Stop (b.at a (.code (.seq x y)::k)) cs l:=Zd6 hS (fun _=>trivial) (fun w=>stepG_seq) h
theorem Zbo(hS:Halts Stop) {c:Nat} {ops:Array Oper} (h:LG E Stop (b.at a (.inRegion ops (List.range ops.size)::k)) cs l):LG E Stop (b.at a (.code (.region c ops false)::k)) cs l:=Zd6 hS (fun _=>trivial) (fun w=>stepG_region) h
theorem Zbp(hS:Halts Stop) {ops:Array Oper} (h:LG E Stop (b.at a k) cs l):LG E Stop (b.at a (.inRegion ops []::k)) cs l:=Zd6 hS (fun _=>trivial) (fun w=>stepG_region_end) h
theorem Zim(hS:Halts Stop) {c:Operand} {x y:Code} {t:Bool} (g:E.operand c=true)(h:a.eval c=.bool t)(f:LG E Stop (b.at a (.code (if t then x else y)::k)) cs l):LG E Stop (b.at a (.code (.cond c x y)::k)) cs l:=Zd6 hS (fun _=>g) (fun w=>stepG_cond h) f
theorem Zk8(hS:Halts Stop) (h:LG E Stop (b.at a k) cs l):LG E Stop (b.at a (.code .skip::k)) cs l:=Zd6 hS (fun _=>trivial) (fun w=>stepG_skip) h
theorem ZqM(hS:Halts Stop) (h:LG E Stop {b.at a (.code .ret::k)with mode:=.returning} cs l):LG E Stop (b.at a (.code .ret::k)) cs l:=Zd6 hS (fun _=>trivial) (fun w=>stepG_ret') h
variable {ops:Array Oper} {i:Nat} {rest:List Nat} {o:Oper}
theorem ZcQ{g:FuncId} {args:Array Value} (hS:Halts Stop)(j:ops[i]?=some o)(hw:Region.wanted o (yielded ops a.tmps)=true)(hk:b.kind≠.early)(f:E.op o.op=true)(m:∀w,(execOp a.eval o).run E.P w=.ok (.enter g args) w) (h:LG E Stop (Frame.enter E.P g args .normal) (b.at a (.inRegion ops (i::rest)::k)::cs) l):LG E Stop (b.at a (.inRegion ops (i::rest)::k)) cs l:=LG.one (W:=fun t d=>l.re t d) (fun _ p c=>by rw[j]at c;cases c;exact f) (fun t d=>stepG_enter j hw hk (m _)) fun t d=>h.re hS t d
theorem ZqN{fn:Func} {f:List Item} {c:Frame} {v:Value} (hS:Halts Stop)(p:b.kind=.normal)(g:a.defers=[])(hf:E.P.funcs[b.fn]?=some fn)(r:∀w,(results fn a.tmps).run E.P w=.ok v w)(j:∀w,(results fn a.tmps).events E.P w #[]=#[])(h:LG E Stop (c.finish v) cs l):LG E Stop {b.at a f with mode:=.returning} (c::cs) l:=Zd6 hS (fun m=>by cases m) (fun w=>stepG_leave p g hf (r w) (j w)) h
end
section
variable {E:Env} {B:Blk}
theorem FR.at_eq {f fa:Frame} (h:FR E B f fa) (hm:f.mode=.run) (j:f.roundOf=none):fa=fa.at ⟨fa.tmps,fa.defers⟩ fa.todo:=by
 have c:fa.mode=.run:=by
  rcases h.mode with⟨_,x⟩|⟨x,_⟩;·exact x
  ·rw[hm]at x;cases x
 have g:fa.roundOf=none:=by
  rcases h.round with⟨_,x⟩|⟨l,l',x,_⟩;·exact x
  ·rw[j]at x;cases x
 obtain⟨p,A,y,m,s,r,v⟩:=fa;dsimp only at c g;subst c g;rfl
theorem FR.noEarly{f fa:Frame} (h:FR E B f fa):fa.kind≠.early:=by rcases h.kind.2 with x|⟨_,x⟩<;>rw[x]<;>simp
theorem FR.region{f fa:Frame} (h:FR E B f fa) {ops:Array Oper} {j:List Nat} {k:List Item} (m:f.todo=.inRegion ops j::k):∃c,fa.todo=.inRegion ops j::c/\KR E B k c:=by have g:=h.todo;rw[m]at g;generalize fa.todo=x at g |-;cases g with|cons y y' k c hy hs=>cases hy with|inRegion ops j ho=>exact⟨c,rfl,hs⟩
theorem FR.oper {f fa:Frame} (h:FR E B f fa) (hm:f.mode=.run) (p:f.roundOf=none) {ops:Array Oper} {i:Nat} {rest:List Nat} {k:List Item} (r:f.todo=.inRegion ops (i::rest)::k):∃c,fa=fa.at ⟨fa.tmps,fa.defers⟩ (.inRegion ops (i::rest)::c)/\KR E B k c:=by obtain⟨c,j,m⟩:=h.region r;have g:=h.at_eq hm p;rw[j]at g;exact⟨c,g,m⟩
end
def bot(P:Program):Frame:={(default:Frame)with fn:=P.funcs.size,defers:=[],mode:=.panicking [goexitEntry]}
def Zbc:Nat->Value->Bool|0,_=>false|n+1,v=>match v with|.bool _|.int ..|.string _|.pointer none|.slice none ..|.nilFunc|.nilIface|.chan none=>true|.iface _ v=>Zbc n v|.agg xs=>xs.all (Zbc n)| .tuple xs => xs.size != 0 && xs.all (Zbc n)|_=>false
theorem ZeH:∀(n:Nat)(v:Value),Zbc n v=true->ZbA n v=true|0,v,h=>by simp[Zbc]at h|n+1,v,h=>by unfold Zbc at h;unfold ZbA;split at h<;>first|rfl|exact ZeH n _ h|(rw[Zym]at h |-;exact fun x c=>ZeH n x (h x c))|(rw[ZyW,Zym]at h;rw[Zym];exact fun x c=>ZeH n x (h.2 x c))|cases h
section
variable {E:Env} {B:Blk}
theorem Zi:∀(n:Nat){v j:Value},Zbc n v=true->VR E B v j->v=j|0,v,j,h,_=>by simp[Zbc]at h|n+1,v,j,h,hv=>by cases hv with|iface t x x' hx=>have f:Zbc n x=true:=h;rw[Zi n f hx]|agg xs xs' hx hxs=>have f:xs.all (Zbc n)=true:=h;rw[Zym]at f;congr 1;exact Array.ext hx fun i g m=>Zi n (f _ (Array.getElem_mem g)) (hxs i _ _ (Zyw g) (Zyw m))|tuple xs xs' hx hxs=>have f : (xs.size != 0 && xs.all (Zbc n)) = true := h;rw[ZyW,Zym]at f;congr 1;exact Array.ext hx fun i g m=>Zi n (f.2 _ (Array.getElem_mem g)) (hxs i _ _ (Zyw g) (Zyw m))|ptr a a' ha=>cases h|slice a a' l c ha=>cases h|slice0 a hz=>rfl|func=>cases h|junk v hf hb=>simp[Zbc]at h|chan r=>rfl|_=>rfl
end
def ZbZ(P:Program)(F c:Nat)(V:Value->Prop)(f:Frame)(cs:List Frame)(l:World):Prop:=cs=[ZG P]/\∃(a:Act)(x y:Operand)(ops:Array Oper)(i:Nat)(o:Oper)(k:List Item),f=(base F).at a (.inRegion ops [i]::k)/\a.defers=[]/\ops[i]?=some o/\o.op=.send x y/\o.guard=none/\(∃n,x=.tmp n)/\(∃n,y=.tmp n)/\a.eval x=.chan (some c)/\V (a.eval y)/\Zbc 8 (a.eval y)=true/\(k=[]∨∃r,k=.code .ret::r)
section
variable {E:Env}
theorem Zin(P:Program)(F g:Nat)(V:Value->Prop):Halts (ZbZ P F g V):=⟨fun f cs l h=>by obtain⟨rfl,a,x,y,ops,i,o,k,rfl,_⟩:=h;exact⟨Qd,fun c j=>by cases j⟩,fun f cs l t d h=>h⟩
theorem ZqO{P:Program} {F:Nat} {fn:Func} {fa:Frame} (hf:P.funcs[F]?=some fn)(f:fn.results=#[])(hF:fa.fn=F)(hm:fa.mode=.returning)(c:fa.defers=[])(hk:fa.kind=.normal∨fa.kind=.deferred):QuitsD P 2 0 (G fa [bot P]):=by
 obtain⟨h,s,r,g,m,j,p⟩:=fa;dsimp only at hF hm c hk;subst hF hm c;refine QuitsD.ctl (g':=G (bot P) []) rfl (fun w=>?_) ?_
 ·rcases hk with rfl|rfl;·simp[G,stepG,unwind,doReturn,results,hf,f,seen,GStep.after,bot,goexitEntry,Frame.finish];rfl
  ·simp[G,stepG,unwind,doReturn,results,hf,f,seen,GStep.after,bot,goexitEntry]
 refine QuitsD.ctl (g':={G (bot P) []with status:=.finished}) rfl (fun w=>?_) ⟨rfl,rfl⟩;simp[G,stepG,unwind,bot,goexitEntry,Frame.catches];rfl
theorem Zio{F j:Nat} {V:Value->Prop} {fn:Func} (hf:E.P.funcs[F]?=some fn)(hr:fn.results=#[]):ZcP E ⟨j,V,[bot E.P],ZbZ E.P F j V⟩:=by intro sh B f cs l fa ca w s hR;obtain⟨rfl,a,x,y,ops,i,o,k,rfl,hd,Z,O,hg,⟨n,rfl⟩,⟨m,rfl⟩,hx,hV,A,hk⟩:=s;have s:=hR.st;cases s with
 |cons _ _ _ _ _ _ hs=>cases hs with|cons _ _ _ _ _ _ h=>cases h
 |last _ _ hF hrd=>
  obtain⟨K,e,H⟩:=hF.oper rfl rfl rfl;have T:=hF.tmps;have e1:(a.tmps.getD n undef)=.chan (some j):=hx;have e2:(fa.tmps.getD n undef)=.chan (some j):=by
   have:=T.getD n (undefR (G:=E) (B:=B));have Q:VR E B (.chan (some j)) (fa.tmps.getD n undef):=by rw[<-e1];exact this
   generalize fa.tmps.getD n undef=v at Q |-;cases Q;rfl
  have e3:(fa.tmps.getD m undef)=a.tmps.getD m undef:=(Zi 8 A (T.getD m (undefR (G:=E) (B:=B)))).symm;have N:fa.defers=[]:=by
   have:=hF.defers;have R:DR B [] fa.defers:=by rw[<-hd];exact this
   generalize fa.defers=z at R |-;cases R;rfl
  have p:fa.kind=.normal∨fa.kind=.deferred:=hF.kind.2.imp id fun z=>z.2;have C:execOp (⟨fa.tmps,fa.defers⟩:Act).eval o=Pure.pure (.comm #[{chan:=(⟨fa.tmps,fa.defers⟩:Act).eval (.tmp n),send:=some ((⟨fa.tmps,fa.defers⟩:Act).eval (.tmp m)),zero:=.tuple #[]}] true .send):=by unfold execOp;rw[O]
  have I:∀w,(execOp (⟨fa.tmps,fa.defers⟩:Act).eval o).run E.P w=.ok (.comm #[scase j (a.eval (.tmp m)) (.tuple #[])] true .send) w:=by intro w;have e4:(⟨fa.tmps,fa.defers⟩:Act).eval (.tmp n)=.chan (some j):=e2;have e5:(⟨fa.tmps,fa.defers⟩:Act).eval (.tmp m)=a.eval (.tmp m):=e3;rw[C,e4,e5];rfl
  have L:∀w,(execOp (⟨fa.tmps,fa.defers⟩:Act).eval o).events E.P w #[]=#[]:=by intro w;rw[C];rfl
  have hw:Region.wanted o (yielded ops fa.tmps)=true:=by unfold Region.wanted;rw[hg]
  have g:=stepG_comm (P:=E.P) (main:=false) (b:=fa) (a:=⟨fa.tmps,fa.defers⟩) (k:=K) (cs:=[bot E.P]) (rest:=[]) Z hw hF.noEarly (I w);rw[listed_none (L w),<-e]at g;refine⟨a.eval (.tmp m),.tuple #[],_,4,hV,ZeH 8 _ A,g,?_⟩;rw[e];have e6:Go.Conc.served (G (fa.at ⟨fa.tmps,fa.defers⟩ (.inRegion ops [i]::K)) [bot E.P]) undef=G (fa.at ((⟨fa.tmps,fa.defers⟩:Act).put o.dst undef) (.inRegion ops []::K)) [bot E.P]:=by have:=Frame.finish_at fa ⟨fa.tmps,fa.defers⟩ (ops:=ops) (i:=i) (rest:=[]) (k:=K) undef;show G ((fa.at ⟨fa.tmps,fa.defers⟩ (.inRegion ops [i]::K)).finish undef) [bot E.P]=_;rw[this,Z];rfl
  rw[e6];refine QuitsD.ctl rfl (fun w=>stepG_region_end) ?_;have hq:∀td,QuitsD E.P 2 0 (G { fa.at ((⟨fa.tmps,fa.defers⟩:Act).put o.dst undef) td with mode:=.returning } [bot E.P]):=by
   intro td;refine ZqO (F:=F) hf hr ?_ rfl ?_ p;·show fa.fn=F;exact hF.fn.symm
   ·show ((⟨fa.tmps,fa.defers⟩:Act).put o.dst undef).defers=[];cases o.dst<;>exact N
  rcases hk with rfl|⟨r,rfl⟩;·cases H;refine QuitsD.ctl rfl (fun w=>stepG_end) ?_;exact hq []
  ·cases H with|cons y y' k k2 hy hs=>cases hy with|code c hc=>refine QuitsD.ctl rfl (fun w=>stepG_ret') ?_;exact hq _
end
section
variable {E:Env} {n:Node} {fa:Frame} {ca:List Frame} {w:World}
theorem ZqP{ops:Array Oper} {i:Nat} {rest:List Nat} {o:Oper} {k:List Item} {x:Nat} {c:Nat} {zz:Value} (hm:n.f.mode=.run)(y:n.f.roundOf=none)(A:n.f.todo=.inRegion ops (i::rest)::k)(s:ops[i]?=some o)(p:o.guard=none)(hx:n.f.tmps.getD x undef=.chan (some c))(hrun:∀(ρ:Operand->Value)(w:World),(execOp ρ o).run E.P w=.ok (.comm #[{chan:=ρ (.tmp x),send:=none,zero:=zz}] true (.recv false)) w)(j:∀(ρ:Operand->Value)(w:World),(execOp ρ o).events E.P w #[]=#[])(hR:Rel E n.sh n.bs n.B n.f n.cs n.l fa ca w):∃zz,stepG E.P true (G fa ca) w=.comm (G fa ca) #[rcase c zz] true (.recv false) w #[]:=by
 have hF:=hR.st.head;obtain⟨F,e,r⟩:=hF.oper hm y A;have m:(⟨fa.tmps,fa.defers⟩:Act).eval (.tmp x)=.chan (some c):=by have h:VR E n.B (n.f.tmps.getD x undef) (fa.tmps.getD x undef):=hF.tmps.getD x (undefR (G:=E) (B:=n.B));rw[hx]at h;show fa.tmps.getD x undef=_;generalize fa.tmps.getD x undef=v at h |-;cases h;rfl
 have C:Region.wanted o (yielded ops fa.tmps)=true:=by unfold Region.wanted;rw[p]
 have g:=stepG_comm (P:=E.P) (main:=true) (b:=fa) (a:=⟨fa.tmps,fa.defers⟩) (k:=F) (cs:=ca) (rest:=rest) s C hF.noEarly (hrun _ w);rw[listed_none (j _ w),<-e,m]at g;exact⟨zz,g⟩
theorem ZqQ{ops:Array Oper} {i:Nat} {rest:List Nat} {o:Oper} {k:List Item} (hm:n.f.mode=.run)(v:n.f.roundOf=none)(x:n.f.todo=.inRegion ops (i::rest)::k)(m:ops[i]?=some o)(r:o.guard=none)(hrun:∀(a:Act) (w:World),(execOp a.eval o).run E.P w=.ok (.value (.chan (some w.heap.size))) (w.alloc (.chan 1 #[] false 0 0 false))) (g:∀(a:Act) (w:World),(execOp a.eval o).events E.P w #[]=#[])(hR:Rel E n.sh n.bs n.B n.f n.cs n.l fa ca w):stepG E.P true (G fa ca) w=.go (G (fa.finish (.chan (some w.heap.size))) ca) (w.alloc (.chan 1 #[] false 0 0 false)) #[]:=by
 have hF:=hR.st.head;obtain⟨h,e,s⟩:=hF.oper hm v x;have y:Region.wanted o (yielded ops fa.tmps)=true:=by unfold Region.wanted;rw[r]
 have c:=stepG_value (P:=E.P) (main:=true) (b:=fa) (a:=⟨fa.tmps,fa.defers⟩) (k:=h) (cs:=ca) (rest:=rest) m y hF.noEarly (hrun _ w);rw[listed_none (g _ w)]at c;have j:=Frame.finish_at fa ⟨fa.tmps,fa.defers⟩ ops i rest h (.chan (some w.heap.size));rw[m]at j;have p:fa.finish (.chan (some w.heap.size))=fa.at ((⟨fa.tmps,fa.defers⟩:Act).put o.dst (.chan (some w.heap.size))) (.inRegion ops rest::h):=by rw[e];exact j
 rw[p,<-c,<-e]
def Blk.on(B:Blk)(X:Nat->Prop):Blk:=fun b x=>B b x/\X b
def idX(X:Nat->Prop):Blk:=fun b c=>b=c/\X b
theorem Zk9{X:Nat->Prop}:∀b b',idX X b b'->b=b':=fun b b' h=>h.1
theorem VR.on{S E:Env} (p:SubG S E E) {B:Blk} {X:Nat->Prop} {v A:Value} (h:VR E B v A):VR S (idX X) v v->VR E (B.on X) v A:=by induction h with
 |bool b=>exact fun _=>.bool b|int k n=>exact fun _=>.int k n|string s=>exact fun _=>.string s|nilPtr=>exact fun _=>.nilPtr|ptr a a' ha=>intro m;cases ha with|mk b b' o s hb=>cases m with|ptr _ _ h2=>cases h2 with|mk _ _ _ _ hx=>exact .ptr _ _ (.mk _ _ _ _ ⟨hb,hx.2⟩)
 |nilSlice l c=>exact fun _=>.nilSlice l c|slice a a' l c ha=>intro m;cases ha with|mk b b' o s hb=>cases m with
   |slice _ _ _ _ h2=>cases h2 with|mk _ _ _ _ hx=>exact .slice _ _ _ _ (.mk _ _ _ _ ⟨hb,hx.2⟩)
   |slice0 _ hz=>rw[p.s]at hz;cases hz
 |slice0 a hz=>rw[p.e]at hz;cases hz|func fn fn' xs xs' ys ys' hf hx hxs hy hys ih1 ih2=>intro m;cases m with|func _ _ _ _ _ _ h1 _ h2 _ h3=>refine .func _ _ _ _ _ _ ?_ hx (fun i u x g j=>ih1 i u x g j (h2 i u u g g)) hy fun i u x g j=>ih2 i u x g j (h3 i u u g g);cases hf with|func f hg=>exact .func f hg|yield a b hb=>cases h1 with|yield _ _ hl=>exact .yield _ _ ⟨hb,hl.2⟩
 |nilFunc=>exact fun _=>.nilFunc|iface t v A _ ih=>intro m;cases m with|iface _ _ _ h2=>exact .iface _ _ _ (ih h2)
 |nilIface=>exact fun _=>.nilIface|chan r=>exact fun _=>.chan r|junk v hf hv=>exact fun _=>.junk v hf hv|agg xs xs' hx hxs ih=>intro m;cases m with|agg _ _ _ h2=>exact .agg _ _ hx fun i u x g j=>ih i u x g j (h2 i u u g g)
 |tuple xs xs' hx hxs ih=>intro m;generalize y:Value.tuple xs=q at m;cases m with|tuple _ _ _ h2=>cases y;exact .tuple _ _ hx fun i u x g j=>ih i u x g j (h2 i u u g g)|junk _ _ _=>cases y;exact .tuple _ _ hx fun i u x g j=>(by simp at g)|_=>cases y
theorem AR.on{S E:Env} (c:SubG S E E) {B:Blk} {X:Nat->Prop} {xs xs':Array Value} (h:AR E B xs xs')(j:∀v∈xs,VR S (idX X) v v):AR E (B.on X) xs xs':=⟨h.size,fun i v m g f=>(h.at_ i v m g f).on c (j v (ZyN g))⟩
def Zbi(S:Env)(X:Nat->Prop)(l:World):Prop:=∀b,X b->∃c T f,l.heap[b]?=some (.cells c T f)/\∀v∈c,VR S (idX X) v v
theorem Zu{S:Env} {X:Nat->Prop} {xs:Array Value} (h:∀v∈xs,VR S (idX X) v v):AR S (idX X) xs xs:=⟨rfl,fun i v g f c=>by rw[f]at c;cases c;exact h v (ZyN f)⟩
theorem ZqR{P:Program} {F:Nat} {fn:Func} {c:Code} (hf:P.funcs[F]?=some fn)(hb:fn.body=some c)(hx:(fn.name== "runtime.NumGoroutine")=false)(cap:Array Value)(w:World):stepG P false (born P { target:=.fn (.func F) cap,args:=#[] }) w=.go (G ((baseD F).at ⟨cap++Array.replicate (fn.ntmps-cap.size) undef,[]⟩ [.code c]) [bot P]) w #[]:=by
 have f:¬fn.name= "runtime.NumGoroutine":=by simpa using hx
 simp[f,born,stepG,unwind,callDeferred,invoke,callFunc,hf,hb,hx,seen,GStep.after,G,Frame.enter,Frame.at,baseD,bot,program,Sem.run,Sem.runT,Sem.run_bind]
end
section
variable {E:Env} {n:Node} {fa:Frame} {ca:List Frame} {w:World}
theorem ZqS{S:Env} (y:SubG S E E)(N:∀g,E.dark g=false)(R:E.sh=true)(A:E.free=true)(O:∀g,E.glob g=false) {ops:Array Oper} {i:Nat} {rest:List Nat} {o:Oper} {k:List Item} {x F:Nat} (L:E.dfr F=true) {fn:Func} {body:Code} {cap:Array Value} {X:Nat->Prop} (hm:n.f.mode=.run)(hr:n.f.roundOf=none)(ht:n.f.todo=.inRegion ops (i::rest)::k)(ho:ops[i]?=some o)(C:o.guard=none)(hd:o.dst=none)(hx:n.f.tmps.getD x undef=.func (.func F) #[] cap)(hrun:∀(ρ:Operand->Value)(r:Array Value)(w:World),ρ (.tmp x)=.func (.func F) #[] r->(execOp ρ o).run E.P w=.ok (.spawn {target:=.fn (.func F) r,args:=#[]}) w/\(execOp ρ o).events E.P w #[]=#[])(hf:E.P.funcs[F]?=some fn)(hb:fn.body=some body)(H:(fn.name== "runtime.NumGoroutine")=false)(Q:Zat body=true)(hcap:∀v∈cap,VR S (idX X) v v)(hX:∀b,X b->n.sh b)(hcl:Zbi S X n.l)(hR:Rel E n.sh n.bs n.B n.f n.cs n.l fa ca w):∃j fc Z,stepG E.P true (G fa ca) w=.spawn (G (fa.finish undef) ca) j w #[]/\j.status=.running/\(∀w,stepG E.P false j w=.go (G fc Z) w #[])/\Rel E X [bot E.P] (n.B.on X) ((base F).at ⟨cap++Array.replicate (fn.ntmps-cap.size) undef,[]⟩ [.code body]) [ZG E.P] n.l fc Z w:=by
 have hF:=hR.st.head;obtain⟨V,e,aA⟩:=hF.oper hm hr ht;have K:VR E n.B (n.f.tmps.getD x undef) (fa.tmps.getD x undef):=hF.tmps.getD x (undefR (G:=E) (B:=n.B));rw[hx]at K;have hw:Region.wanted o (yielded ops fa.tmps)=true:=by unfold Region.wanted;rw[C]
 generalize hv:fa.tmps.getD x undef=v at K;cases K with|func fn1 fn2 xs xs' ys ys' hfn hxs1 hxs2 hys1 hys2=>cases hfn with|func _ hgood=>
   obtain rfl:xs'=#[]:=Array.eq_empty_of_size_eq_zero hxs1.symm;have hA:AR E n.B cap ys':=⟨hys1,hys2⟩;obtain⟨r1,r2⟩:=hrun (⟨fa.tmps,fa.defers⟩:Act).eval ys' w hv;have I:=stepG_spawn (P:=E.P) (main:=true) (b:=fa) (a:=⟨fa.tmps,fa.defers⟩) (k:=V) (cs:=ca) (rest:=rest) ho hw hF.noEarly r1 rfl;rw[listed_none r2]at I;have e6:=Frame.finish_at fa ⟨fa.tmps,fa.defers⟩ ops i rest V undef;rw[ho]at e6;have e7:fa.finish undef=fa.at ((⟨fa.tmps,fa.defers⟩:Act).put o.dst undef) (.inRegion ops rest::V):=by rw[e];exact e6
   refine⟨_,_,_,?_,rfl,fun w=>ZqR hf hb H ys' w,⟨?_,?_,fun b hb=>let ⟨_,_,_,m,_⟩:=hcl b hb;(Zyy.1 m).1⟩⟩;·rw[e7,<-I,<-e]
   ·refine .last _ _ ⟨rfl,?_,.cons _ _ _ _ (.code _ ⟨Q,fun h=>by rw[A]at h;cases h⟩) .nil,.nil,.inl ⟨rfl,rfl⟩,⟨rfl,.inr ⟨L,rfl⟩⟩,.inl ⟨rfl,rfl⟩⟩ rfl;show AR E (n.B.on X) (cap++Array.replicate _ undef) (ys'++Array.replicate _ undef);rw[hys1];exact(hA.on y hcap).append (AR.replicate _ undefR)
   ·obtain⟨w1,w2,w3,w4,w5,w6,w7,w8,w9,aB,aC⟩:=hR.wr;refine⟨fun b p c' m s=>w1 b p c' m.1 s.1,fun b c p m s=>w2 b c p m.1 s.1,fun b p m=>w3 b p m.1,fun b p m s=>absurd m.2 s,fun b p m s=>?_,fun _ _ x=>x.elim,fun g C=>(by rw[O]at C;cases C),fun b p m=>w8 b p m.1,w9,fun hs=>(by rw[R]at hs;cases hs),fun g C=>(by rw[N]at C;cases C)⟩;have x1:=hX b s;obtain⟨c,T,fz,x3,x4⟩:=hcl b s;obtain⟨c1,c2,T',f',y1,y2,y3⟩:=w5 b p m.1 x1;rw[x3]at y1;cases y1;exact⟨c,c2,T,f',x3,y2,y3.on y x4⟩
end
section
variable {l:World} {t:Nat->Question->Nat} {d:Nat}
theorem Zdv(a:Addr):(l.re t d).cell? a=l.cell? a:=rfl
theorem Zdw(a:Addr):(l.re t d).frozen? a=l.frozen? a:=rfl
theorem Zdx(b:Nat):(l.re t d).shape? b=l.shape? b:=rfl
theorem ZcR:(l.re t d).heap.size=l.heap.size:=rfl
theorem Zla:(l.re t d).heap=l.heap:=rfl
theorem Zdy(o:Obj):(l.re t d).alloc o=(l.alloc o).re t d:=rfl
theorem Zdz(a:Addr)(v:Value):(l.re t d).setCell a v=(l.setCell a v).re t d:=by unfold World.setCell World.re;rfl
end
section
variable {E:Env} {Stop:Frame->List Frame->World->Prop} {b:Frame} {a:Act} {k:List Item} {cs:List Frame} {l:World} {ops:Array Oper} {i:Nat} {rest:List Nat} {o:Oper}
theorem ZS(hS:Halts Stop)(y:ops[i]?=some o)(hw:Region.wanted o (yielded ops a.tmps)=true)(hk:b.kind≠.early)(A:E.op o.op=true)(h:∀t d (K:Result Next->Prop),(∀v W,LG E Stop (b.at (a.put o.dst v) (.inRegion ops rest::k)) cs W->K (.ok (.value v) (W.re t d)))->(∀W,LG E Stop (b.at (a.put o.dst undef) (.inRegion ops rest::k)) cs W->K (.ok .skip (W.re t d)))->K ((execOp a.eval o).run E.P (l.re t d))):LG E Stop (b.at a (.inRegion ops (i::rest)::k)) cs l:=by
 have C:=fun t d=>h t d (fun r=>(∃v W,r=.ok (.value v) W/\LG E Stop (b.at (a.put o.dst v) (.inRegion ops rest::k)) cs W)∨∃W,r=.ok .skip W/\LG E Stop (b.at (a.put o.dst undef) (.inRegion ops rest::k)) cs W) (fun v W x=>.inl ⟨v,_,rfl,x.re hS t d⟩) fun W x=>.inr ⟨_,rfl,x.re hS t d⟩;have c:∀t d,∃p l' s,stepG E.P true (G (b.at a (.inRegion ops (i::rest)::k)) cs) (l.re t d)=.go (G p cs) l' s/\LG E Stop p cs l':=by
  intro t d;rcases C t d with⟨v,W,f,j⟩|⟨W,f,j⟩;·exact⟨_,_,_,stepG_value y hw hk f,j⟩
  ·exact⟨_,_,_,stepG_none y hw hk f,j⟩
 refine .step _ _ _ (fun _ N m=>by rw[y]at m;cases m;exact A) (fun t d=>?_) fun t d p F l' s g=>?_;·obtain⟨p,l',s,f,_⟩:=c t d;exact⟨_,_,_,_,f⟩
 ·obtain⟨I,L,H,f,j⟩:=c t d;rw[f]at g;simp only[GStep.go.injEq,G,Goroutine.mk.injEq,and_true]at g;obtain⟨⟨rfl,rfl⟩,rfl,_⟩:=g;exact j
theorem Zlb(v:E.sh=true)(s:∀g,E.glob g=false)(r:∀g,E.dark g=false) {X:Nat->Prop} (y:Zbi E X l)(p:E.P.globals.size<=l.heap.size):WR E ⟨fun _=>False,fun _=>True⟩ (idX X) l l:=⟨fun b j C f m=>by rw[<-f.1,m.1],fun b c j f m=>by rw[f.1,m.1],fun b j h=>by obtain⟨rfl,h⟩:=h;obtain⟨c,T,x,f,_⟩:=y b h;have:=(Zyy.1 f).1;exact⟨this,this⟩,fun b j h _=>by obtain⟨rfl,h⟩:=h;obtain⟨c,T,x,f,m⟩:=y b h;exact⟨_,_,f,f,.cells c c T x (Zu m)⟩,fun b j _ h=>h.elim,fun i q _=>rfl,fun g h=>(by rw[s]at h;cases h),fun b j h=>by rw[h.1],⟨p,p⟩,fun A=>(by rw[v]at A;cases A),fun g p=>(by rw[r]at p;cases p)⟩
end
section
variable {E:Env} {Stop:Frame->List Frame->World->Prop} {b:Frame} {a:Act} {k:List Item} {cs:List Frame} {l:World} {ops:Array Oper}
theorem Zlc{P:Program} {c:Nat} (w:World):stepG P true (G (b.at a (.code (.region c ops true)::k)) cs) w=.go (G (b.at a (.inRegion ops (Region.schedule (P.follows .mixedOrders) ops (w.tape w.drawn (.order b.fn c)))::k)) cs) {w with drawn:=w.drawn+1} #[]:=by simp[G,stepG,stepG.exec,Frame.at,choose,Sem.run,Question.forced,Question.cut]
theorem ZqT(hS:Halts Stop) {g:Nat} (h:∀n,LG E Stop (b.at a (.inRegion ops (Region.schedule (E.P.follows .mixedOrders) ops n)::k)) cs l):LG E Stop (b.at a (.code (.region g ops true)::k)) cs l:=by refine .step _ _ _ (fun _=>trivial) (fun t d=>⟨_,_,_,_,Zlc _⟩) fun t d m f l' j c=>?_;rw[Zlc]at c;simp only[GStep.go.injEq,G,Goroutine.mk.injEq,and_true]at c;obtain⟨⟨rfl,rfl⟩,rfl,_⟩:=c;exact(h _).re hS t (d+1)
theorem Zip(m:Region.Mode):∀(f t:Nat)(c:Array Bool)(g:List Nat),Region.linearise.go m ops f t c g=g.reverse++Region.linearise.go m ops f t c []
 |0,t,c,g=>by simp[Region.linearise.go]|f+1,t,c,g=>by
  unfold Region.linearise.go;dsimp only;split;·rename_i i h;rw[Zip m f _ _ (i::g),Zip m f _ _ [i]];simp
  ·simp
def ready(ops:Array Oper)(c:Array Bool):List Nat:=(List.range ops.size).filter fun i=>!c.getD i true&&((ops[i]?).map (·.after.all fun e=>!Region.binds .any e||c.getD e.on false)).getD false
theorem ZqU(f t:Nat) (c:Array Bool):Region.linearise.go .any ops (f+1) t c []=match (ready ops c)[t%(ready ops c).length]? with|some i=>Region.linearise.go .any ops f (t / (ready ops c).length) (c.setIfInBounds i true) [i]|none=>[]:=rfl
theorem go_cases(f t:Nat)(c:Array Bool):Region.linearise.go .any ops (f+1) t c []=[]/\ready ops c=[]∨∃i g,i∈ready ops c/\Region.linearise.go .any ops (f+1) t c []=i::Region.linearise.go .any ops f g (c.setIfInBounds i true) []:=by rw[ZqU];generalize ready ops c=L;cases h:L[t%L.length]? with
 |none=>refine .inl ⟨rfl,?_⟩;cases L with
  |nil=>rfl|cons x xs=>rw[ZAo]at h;have:=Nat.mod_lt t (show 0<(x::xs).length by simp);omega
 |some i=>refine .inr ⟨i,t / L.length,ZA5 h,?_⟩;dsimp only;rw[Zip];rfl
theorem ZqV{p q:Nat->Bool} {x:Nat} {L:List Nat} (c:∀j,q j=true->p j=true)(hx:x∈L)(hp:p x=true)(hq:q x=false):L.countP q<L.countP p:=by induction L with
 |nil=>cases hx|cons y L ih=>
  have g:L.countP q<=L.countP p:=List.countP_mono_left fun j _=>c j;rw[List.countP_cons,List.countP_cons];rcases ZAX.1 hx with rfl|hx;·simp[hp,hq];omega
  ·have:=ih hx;have:(if q y=true then 1 else 0)<=(if p y=true then 1 else 0):=by
    by_cases f:q y=true;·simp[f,c y f]
    ·simp[f]
   omega
theorem ZqW(hm:E.P.follows .mixedOrders=true)(I:Array Bool->Act->World->Prop)(g:∀c a l i rest,I c a l->i∈ready ops c->(ready ops (c.setIfInBounds i true)=[]->rest=[])->(∀a' l',I (c.setIfInBounds i true) a' l'->LG E Stop (b.at a' (.inRegion ops rest::k)) cs l')->LG E Stop (b.at a (.inRegion ops (i::rest)::k)) cs l)(hne:∀c a l,I c a l->ready ops c≠[])(m:∀c a l,I c a l->0<(List.range ops.size).countP fun j=>!c.getD j true)(n:Nat)(h0:I (Array.replicate ops.size false) a l):LG E Stop (b.at a (.inRegion ops (Region.schedule (E.P.follows .mixedOrders) ops n)::k)) cs l:=by
 have e:Region.schedule (E.P.follows .mixedOrders) ops n=Region.linearise.go .any ops ops.size n (Array.replicate ops.size false) []:=by rw[hm];rfl
 rw[e];have y:∀(f n:Nat)(c:Array Bool)(a:Act)(l:World),((List.range ops.size).countP fun j=>!c.getD j true)<=f->I c a l->LG E Stop (b.at a (.inRegion ops (Region.linearise.go .any ops f n c [])::k)) cs l:=by intro f;induction f with|zero=>intro n c a l L r;have:=m c a l r;omega|succ f ih=>
   intro n c a l L r;rcases go_cases (ops:=ops) f n c with⟨_,s⟩|⟨i,H,A,s⟩;·exact absurd s (hne c a l r)
   ·rw[s];refine g c a l i _ r A (fun Q=>?_) fun a' l' v=>ih H _ a' l' ?_ v;·cases f with|zero=>rfl|succ f=>
      rcases go_cases (ops:=ops) f H (c.setIfInBounds i true)with⟨p,_⟩|⟨j,T,p,_⟩;·exact p
      ·rw[Q]at p;cases p
    ·
     have F:i∈List.range ops.size/\c.getD i true=false:=by have:=ZA0.1 A;refine⟨this.1,?_⟩;have C:=this.2;simp only[ZyW,Zy3]at C;exact C.1
     have O:(List.range ops.size).countP (fun j=>!(c.setIfInBounds i true).getD j true)<(List.range ops.size).countP fun j=>!c.getD j true:=by
      refine ZqV (x:=i) (fun j N=>?_) F.1 (by simp[F.2]) ?_
      ·revert N;rw[Zyt,Zyt,ZyF];split
       ·split;·simp
        ·rename_i K R;subst K;rw[Zyx Qa];simp
       ·exact id
      ·rw[Zyt,ZyF];split;·split<;>simp
       ·rename_i h;exact absurd rfl h
     omega
 refine y ops.size n _ a l ?_ h0;exact ZBG (List.countP_le_length) Qd
end
section
variable {E1 S E2:Env} {B:Blk} {X:Nat->Prop}
theorem VR.on'(p:SubG S E1 E2)(C:E2.junk=true) {v A:Value} (h:VR E1 B v A):VR S (idX X) v v->VR E2 (B.on X) v A:=by induction h with
 |bool b=>exact fun _=>.bool b|int k n=>exact fun _=>.int k n|string s=>exact fun _=>.string s|nilPtr=>exact fun _=>.nilPtr|ptr a a' ha=>intro m;cases ha with|mk b b' o s hb=>cases m with|ptr _ _ h2=>cases h2 with|mk _ _ _ _ hx=>exact .ptr _ _ (.mk _ _ _ _ ⟨hb,hx.2⟩)
 |nilSlice l c=>exact fun _=>.nilSlice l c|slice a a' l c ha=>intro m;cases ha with|mk b b' o s hb=>cases m with
   |slice _ _ _ _ h2=>cases h2 with|mk _ _ _ _ hx=>exact .slice _ _ _ _ (.mk _ _ _ _ ⟨hb,hx.2⟩)
   |slice0 _ hz=>rw[p.s]at hz;cases hz
 |slice0 a hz=>rw[p.e]at hz;cases hz|func fn fn' xs xs' ys ys' hf hx hxs hy hys ih1 ih2=>intro m;cases m with|func _ _ _ _ _ _ h1 _ h2 _ h3=>refine .func _ _ _ _ _ _ ?_ hx (fun i u x g j=>ih1 i u x g j (h2 i u u g g)) hy fun i u x g j=>ih2 i u x g j (h3 i u u g g);cases hf with
   |func f hg=>cases h1 with|func _ hg2=>exact .func f (p.good f hg2)
   |yield a b hb=>cases h1 with|yield _ _ hl=>exact .yield _ _ ⟨hb,hl.2⟩
 |nilFunc=>exact fun _=>.nilFunc|iface t v A _ ih=>intro m;cases m with|iface _ _ _ h2=>exact .iface _ _ _ (ih h2)
 |nilIface=>exact fun _=>.nilIface|chan r=>exact fun _=>.chan r|junk v hf hv=>exact fun _=>.junk v C hv|agg xs xs' hx hxs ih=>intro m;cases m with|agg _ _ _ h2=>exact .agg _ _ hx fun i u x g j=>ih i u x g j (h2 i u u g g)
 |tuple xs xs' hx hxs ih=>intro m;generalize y:Value.tuple xs=q at m;cases m with|tuple _ _ _ h2=>cases y;exact .tuple _ _ hx fun i u x g j=>ih i u x g j (h2 i u u g g)|junk _ _ _=>cases y;exact .tuple _ _ hx fun i u x g j=>(by simp at g)|_=>cases y
theorem AR.on'(c:SubG S E1 E2)(j:E2.junk=true) {xs xs':Array Value} (h:AR E1 B xs xs')(m:∀v∈xs,VR S (idX X) v v):AR E2 (B.on X) xs xs':=⟨h.size,fun i v p g f=>(h.at_ i v p g f).on' c j (m v (ZyN g))⟩
theorem Zda(S:Env)(X:Nat->Prop) {v:Value} (hb:bare v=true):∃u,VR S (idX X) u u/\(VR S (idX X) v v->u=v)/\∀(E1 E2:Env)(B:Blk)(c:Value),SubG S E1 E2->E2.junk=true->VR E1 B v c->VR E2 (B.on X) u c:=by
 by_cases g:VR S (idX X) v v;·exact⟨v,g,fun _=>rfl,fun E1 E2 B c j f h=>VR.on' j f h g⟩
 ·exact⟨.tuple #[],undefR,fun h=>absurd h g,fun E1 E2 B c j f h=>.junk c f (by rw[<-h.bare];exact hb)⟩
theorem ZeI(S:Env)(X:Nat->Prop):∀(v:Value),∃u,VR S (idX X) u u/\(VR S (idX X) v v->u=v)/\∀(E1 E2:Env)(B:Blk)(f:Value),SubG S E1 E2->E2.junk=true->VR E1 B v f->VR E2 (B.on X) u f
 |.iface t v=>by
  obtain⟨u,j,g,L⟩:=ZeI S X v;refine⟨.iface t u,.iface _ _ _ j,fun h=>?_,fun E1 E2 B f r p h=>?_⟩;·cases h with|iface _ _ _ h4=>rw[g h4]
  ·cases h with|iface _ _ f h4=>exact .iface _ _ _ (L E1 E2 B f r p h4)
 |.agg xs=>by
  have C:∀i:_root_.Fin xs.size,∃u,VR S (idX X) u u/\(VR S (idX X) xs[i] xs[i]->u=xs[i])/\∀(E1 E2:Env)(B:Blk)(f:Value),SubG S E1 E2->E2.junk=true->VR E1 B xs[i] f->VR E2 (B.on X) u f:=fun i=>ZeI S X xs[i];have y:(Array.ofFn fun i=>(C i).choose).size=xs.size:=Qd
  have m:∀(i:Nat)(u:Value),(Array.ofFn fun i=>(C i).choose)[i]?=some u->∃v,xs[i]?=some v/\VR S (idX X) u u/\(VR S (idX X) v v->u=v)/\∀(E1 E2:Env)(B:Blk)(f:Value),SubG S E1 E2->E2.junk=true->VR E1 B v f->VR E2 (B.on X) u f:=by
   intro i u A;rw[Array.getElem?_ofFn]at A;split at A;·rename_i I;cases A;exact⟨xs[i],Zyw I,(C ⟨i,I⟩).choose_spec⟩
   ·cases A
  refine⟨.agg (Array.ofFn fun i=>(C i).choose),.agg _ _ rfl fun i u N j g=>?_,fun h=>?_,fun E1 E2 B f r p h=>?_⟩;·rw[j]at g;cases g;obtain⟨v,x,F,_⟩:=m i u j;exact F
  ·cases h with|agg _ _ _ h4=>congr 1;refine Array.ext y fun i j g=>?_;obtain⟨v,x,F,H,_⟩:=m i _ (Zyw j);rw[Zyw g]at x;cases x;exact H (h4 i _ _ (Zyw g) (Zyw g))
  ·cases h with|agg _ xs' h4 h5=>refine .agg _ _ (y.trans h4) fun i u f j g=>?_;obtain⟨v,x,F,H,K⟩:=m i u j;exact K E1 E2 B f r p (h5 i v f x g)
 |.bool b=>⟨.bool b,.bool b,fun _=>rfl,fun E1 E2 B f r p h=>by cases h;exact .bool b⟩|.int k n=>⟨.int k n,.int k n,fun _=>rfl,fun E1 E2 B f r p h=>by cases h;exact .int k n⟩|.string s=>⟨.string s,.string s,fun _=>rfl,fun E1 E2 B f r p h=>by cases h;exact .string s⟩|.nilIface=>⟨.nilIface,.nilIface,fun _=>rfl,fun E1 E2 B f r p h=>by cases h;exact .nilIface⟩|.float a b=>Zda S X rfl|.complex a b c=>Zda S X rfl|.pointer a=>Zda S X rfl|.slice a b c=>Zda S X rfl|.map a=>Zda S X rfl|.chan a=>Zda S X rfl|.func a b c=>Zda S X rfl|.nilFunc=>Zda S X rfl|.tuple a=>Zda S X rfl termination_by v=>SizeOf.sizeOf v decreasing_by
 ·simp_wf;omega
 ·have:=Array.sizeOf_getElem xs i.1 i.2;simp_wf;have e:SizeOf.sizeOf xs[i]=SizeOf.sizeOf xs[i.1]:=rfl;omega
noncomputable def san(S:Env)(X:Nat->Prop)(v:Value):Value:=(ZeI S X v).choose
theorem Zld(S:Env) (X:Nat->Prop) (v:Value):VR S (idX X) (san S X v) (san S X v):=(ZeI S X v).choose_spec.1
theorem ZqX{S:Env} {X:Nat->Prop} {v:Value} (h:VR S (idX X) v v):san S X v=v:=(ZeI S X v).choose_spec.2.1 h
theorem Zle(c:SubG S E1 E2) (g:E2.junk=true) {v f:Value} (h:VR E1 B v f):VR E2 (B.on X) (san S X v) f:=(ZeI S X v).choose_spec.2.2 E1 E2 B f c g h
noncomputable def Zlf(S:Env)(X:Nat->Prop)(o:Obj):Obj:=match o with|.cells c T _=>.cells (c.map (san S X)) T (0,c.size+1)|o=>o
open Classical in noncomputable def sanW(S:Env)(X Y:Nat->Prop)(l:World):World:={l with heap:=l.heap.mapIdx fun b o=>if Y b then Zlf S X o else o}
section
variable {S:Env} {X Y:Nat->Prop} {l:World}
theorem Zb0:(sanW S X Y l).heap.size=l.heap.size:=by simp[sanW]
theorem ZfD{b:Nat} (h:¬Y b):(sanW S X Y l).heap[b]?=l.heap[b]?:=by simp only[sanW,ZyA];cases l.heap[b]? with|none=>rfl|some o=>simp[h]
theorem ZfE{b:Nat} (h:Y b) {c:Array Value} {T:TypeId} {f:Nat×Nat} (g:l.heap[b]?=some (.cells c T f)):(sanW S X Y l).heap[b]?=some (.cells (c.map (san S X)) T (0,(c.map (san S X)).size+1)):=by simp only[sanW,ZyA,g];simp[h,Zlf]
theorem ZqY{b:Nat} (c:l.heap[b]?=some (.deferred none)):(sanW S X Y l).heap[b]?=some (.deferred none):=by simp only[sanW,ZyA,c];simp only[ZB8];split<;>rfl
theorem ZeJ{a:Addr} {v:Value} (hv:l.cell? a=some v)(j:VR S (idX X) v v):(sanW S X Y l).cell? a=some v:=by
 by_cases h:Y a.block;·cases g:l.heap[a.block]? with
  |none=>simp[World.cell?,g]at hv|some o=>cases o with
   |cells c T f=>
    simp only[World.cell?,g]at hv;simp only[World.cell?,ZfE h g];split at hv;·cases hv
    ·rename_i m;rw[if_neg m,Zyz,hv,ZB8,ZqX j]|_=>simp[World.cell?,g]at hv
 ·have:=hv;unfold World.cell? at this |-;rw[ZfD h];exact this
end
def Z6(B:Blk)(l:World)(b:Nat):Prop:=(∃g,B b g)/\∃c T f,l.heap[b]?=some (.cells c T f)
theorem ZqZ(V:E2.P=E1.P)(H:SubG S E1 E2)(hJ:E2.junk=true)(N:E2.sh=true)(L:∀g,E2.glob g=false)(K:∀g,E2.dark g=false) {sh:Nat->Prop} {l w:World} (h:WR E1 ⟨sh,fun _=>False⟩ B l w):WR E2 ⟨Z6 B l,fun _=>False⟩ (B.on (Z6 B l)) (sanW S (Z6 B l) (Z6 B l) l) w/\Zbi S (Z6 B l) (sanW S (Z6 B l) (Z6 B l) l):=by
 refine⟨⟨fun b j r x y=>h.fn _ _ _ x.1 y.1,fun b c j x y=>h.inj _ _ _ x.1 y.1,fun b j x=>⟨by rw[Zb0];exact(h.dom _ _ x.1).1,(h.dom _ _ x.1).2⟩,fun b j x p=>absurd x.2 p,fun b j x _=>?_,fun _ _ x=>x.elim,fun g F=>(by rw[L]at F;cases F),fun b j x=>by rw[V];exact h.low _ _ x.1,by rw[V,Zb0];exact h.gsz,fun p=>(by rw[N]at p;cases p),fun g F=>(by rw[K]at F;cases F)⟩,fun b Z=>?_⟩
 ·obtain⟨_,c,T,f,C⟩:=id x.2;have R:∃r I,w.heap[j]?=some (.cells r T I)/\AR E1 B c r:=by
   by_cases p:sh b;·obtain⟨c1,aA,T1,f1,s,A,m⟩:=h.shr b j x.1 p;rw[C]at s;cases s;exact⟨_,_,A,m⟩
   ·obtain⟨o,o',s,A,m⟩:=h.obj b j x.1 p;rw[C]at s;cases s;cases m with|cells c r T f m=>exact⟨_,_,A,m⟩
  obtain⟨r,I,A,m⟩:=R;refine⟨_,r,T,I,ZfE x.2 C,A,⟨by simp[m.size],fun i u v' hu Q=>?_⟩⟩;rw[Zyz]at hu;obtain⟨v,O,rfl⟩:=ZB7.1 hu;exact Zle H hJ (m.at_ i v v' O Q)
 ·obtain⟨_,c,T,f,C⟩:=id Z;refine⟨_,T,_,ZfE Z C,fun v O=>?_⟩;obtain⟨x,_,rfl⟩:=Array.mem_map.1 O;exact Zld S _ x
theorem Zq0{E:Env} (F:SubG S E E)(hJ:E.junk=true)(N:E.sh=true) {Y:Nat->Prop} {sh:Nat->Prop} {bs:List Frame} {f fa:Frame} {cs ca:List Frame} {l w:World} (R:∀b,Y b->∃c T f,l.heap[b]?=some (.cells c T f))(h:Rel E sh bs B f cs l fa ca w):Rel E (fun b=>sh b∨Y b) bs B f cs (sanW S (fun b=>X b∨Y b) Y l) fa ca w:=by
 have L:(B.on fun b=>X b∨Y b).le B:=fun b r x=>x.1;obtain⟨s,⟨w1,w2,w3,w4,w5,w6,w7,w8,w9,aB,H⟩,m⟩:=h;refine⟨s,⟨w1,w2,fun b r j=>by rw[Zb0];exact w3 b r j,fun b r j p=>?_,fun b r j p=>?_,fun _ _ x=>x.elim,w7,w8,by rw[Zb0];exact w9,fun p=>(by rw[N]at p;cases p),fun g V=>⟨ZqY (H g V).1,(H g V).2⟩⟩,fun b j=>?_⟩;·rw[ZfD (fun y=>p (.inr y))];exact w4 b r j fun hx=>p (.inl hx)
 ·by_cases y:Y b
  ·obtain⟨c,T,f,K⟩:=R b y;have Q:∃A I,w.heap[r]?=some (.cells A T I)/\AR E B c A:=by
    by_cases p:sh b;·obtain⟨c1,aA,T1,f1,s,C,m⟩:=w5 b r j p;rw[K]at s;cases s;exact⟨_,_,C,m⟩
    ·obtain⟨o,o',s,C,m⟩:=w4 b r j p;rw[K]at s;cases s;cases m with|cells c A T f m=>exact⟨_,_,C,m⟩
   obtain⟨A,I,C,m⟩:=Q;refine⟨_,A,T,I,ZfE y K,C,⟨by simp[m.size],fun i u v' Z O=>?_⟩⟩;rw[Zyz]at Z;obtain⟨v,hv,rfl⟩:=ZB7.1 Z;exact(Zle F hJ (m.at_ i v v' hv O)).mono L
  ·rw[ZfD y];exact w5 b r j (p.resolve_right y)
 ·rw[Zb0];rcases j with j|j;·exact m b j
  ·obtain⟨c,T,f,h⟩:=R b j;exact(Zyy.1 h).1
theorem Ziq{Y:Nat->Prop} {l:World} (p:Zbi S X l) (r:∀b,Y b->∃c T f,l.heap[b]?=some (.cells c T f)):Zbi S (fun b=>X b∨Y b) (sanW S (fun b=>X b∨Y b) Y l):=by
 intro b s;by_cases g:Y b;·obtain⟨c,T,f,j⟩:=r b g;refine⟨_,T,_,ZfE g j,fun v m=>?_⟩;obtain⟨x,_,rfl⟩:=Array.mem_map.1 m;exact Zld S _ x
 ·obtain⟨c,T,f,j,m⟩:=p b (s.resolve_right g);exact⟨c,T,f,by rw[ZfD g];exact j,fun v h=>(m v h).mono fun a b x=>⟨x.1,.inl x.2⟩⟩
theorem Zq1(R:E2.P=E1.P)(j:SubG S E1 E2)(N:E2.junk=true)(I:E2.sh=true)(m:E2.free=true)(F:∀g,E2.glob g=false)(C:∀g,E2.dark g=false)(A:∀f,E1.dfr f=false) {sh:Nat->Prop} {l w:World} {bs':List Frame} {g:FuncId} {args:Array Value} {fn:Func} {body:Code} {cs:List Frame} {fa:Frame} {ca:List Frame} (K:List Frame)(hf:E1.P.funcs[g]?=some fn)(hb:fn.body=some body)(hm:Zat body=true)(V:∀v∈args,VR S (idX (Z6 B l)) v v)(h:Rel E1 sh bs' B (Frame.enter E1.P g args .normal) cs l fa ca w):Zbi S (Z6 B l) (sanW S (Z6 B l) (Z6 B l) l)/\Rel E2 (Z6 B l) K (B.on (Z6 B l)) (Frame.enter E1.P g args .normal) [ZG E2.P] (sanW S (Z6 B l) (Z6 B l) l) fa K w:=by
 obtain⟨Q,L⟩:=ZqZ (S:=S) R j N I F C h.wr;refine⟨L,⟨?_,Q,fun b hb=>?_⟩⟩
 ·have hF:=h.st.head;refine .last _ _ ⟨hF.fn,?_,?_,?_,hF.mode,⟨hF.kind.1,hF.kind.2.imp id fun x=>(by have:=x.1;rw[A]at this;cases this)⟩,.inl ⟨rfl,?_⟩⟩ rfl
  ·refine hF.tmps.on' j N fun v r=>?_;rcases ZyL.1 (show v∈args++Array.replicate _ undef from r)with r|r;·exact V v r
   ·rw[(Array.mem_replicate.1 r).2];exact undefR
  ·have H:=hF.todo;have e:(Frame.enter E1.P g args .normal).todo=[.code body]:=by simp[Frame.enter,hf,hb]
   rw[e]at H |-;generalize fa.todo=x at H |-;cases H with|cons y y' k k' hy hs=>cases hs;cases hy with|code c hc=>exact .cons _ _ _ _ (.code _ ⟨hm,fun p=>by rw[m]at p;cases p⟩) .nil|mark=>exact absurd hm (by simp[Zat])
  ·have s:=hF.defers;have e:(Frame.enter E1.P g args .normal).defers=[]:=rfl;rw[e]at s |-;generalize fa.defers=x at s |-;cases s;exact .nil
  ·rcases hF.round with⟨_,x⟩|⟨_,_,x,_⟩;·exact x
   ·cases x
 ·obtain⟨c,T,Z,O,_⟩:=L b hb;exact(Zyy.1 O).1
end
structure Kept1 (w w':World):Prop where
 size:w.heap.size<=w'.heap.size
 heap:∀x,x<w.heap.size->w'.heap[x]?=w.heap[x]?
 os:w'.os=w.os
 output:w'.output=w.output
theorem Kept1.refl(w:World):Kept1 w w:=⟨ZBF _,fun _ _=>rfl,rfl,rfl⟩
theorem Kept1.trans{a b c:World} (h:Kept1 a b)(k:Kept1 b c):Kept1 a c:=⟨ZBG h.size k.size,fun x f=>(k.heap x (ZBJ f h.size)).trans (h.heap x f),k.os.trans h.os,k.output.trans h.output⟩
def ZdA(P:Program)(fa:Frame)(w:World)(R:Value->Prop):Prop:=∀{Post:Value->World->Prop} {c:Frame} {ca:List Frame} {gs:Array Goroutine} {sl:Option (Nat×Nat)} {t:Trace} {q:Nat->Nat},gs[0]?=some (G fa (c::ca))->Leavers P t gs q->Past (fun _=>False) w.heap.size t->(∀{v:Value} {w':World} {f:Array Goroutine} {sl':Option (Nat×Nat)} {g:Trace} {h:Nat->Nat},R v->Kept1 w w'->f[0]?=some (G (c.finish v) ca)->Leavers P g f h->Past (fun _=>False) w'.heap.size g->Fin P Post f w' sl' g)->Fin P Post gs w sl t
def pad(l:World)(n:Nat):World:={l with heap:=l.heap++Array.replicate n (.deferred none)}
theorem Zcv(l:World)(n:Nat):(pad l n).heap.size=l.heap.size+n:=by simp[pad]
theorem Zcw(l:World)(n:Nat) {b:Nat} (h:b<l.heap.size):(pad l n).heap[b]?=l.heap[b]?:=by simp[pad,Array.getElem?_append_left h]
structure OldOk (W:World)(OldB B:Blk)(w:World):Prop where
 kept:Kept1 W w
 old:∀b x,B b x->x<W.heap.size->OldB b x
section
variable (E:Env)(Post:Value->World->Prop)(W l0:World)(OldB:Blk)(sh:Nat->Prop)(bs':List Frame)
def Zlg(f:Frame)(cs:List Frame)(l:World):Prop:=∀{B:Blk} {fa:Frame} {ca:List Frame} {w:World} {gs:Array Goroutine} {sl:Option (Nat×Nat)} {t:Trace} {q:Nat->Nat},gs[0]?=some (G fa ca)->Leavers E.P t gs q->Past (fun _=>False) w.heap.size t->Rel E sh bs' B f cs l fa ca w->OldOk W OldB B w->Fin E.P Post gs w sl t
structure StopG (f:Frame)(cs:List Frame)(l:World):Prop where
 deep:cs≠[]
 calm:∀c,f.mode≠.panicking c
 keep:∀x,x<l0.heap.size->l.heap[x]?=l0.heap[x]?
 good:Zlg E Post W OldB sh bs' f cs l
end
section
variable {E:Env} {Post:Value->World->Prop} {W l0:World} {OldB:Blk} {sh:Nat->Prop} {bs':List Frame}
theorem Rel.re'{B:Blk} {f fa:Frame} {cs ca:List Frame} {l w:World} {t:Nat->Question->Nat} {d:Nat} (h:Rel E sh bs' B f cs (l.re t d) fa ca w):Rel E sh bs' B f cs l fa ca w:=⟨h.st,h.wr.retape rfl rfl rfl fun _ _ x=>x.elim,h.low⟩
theorem Zd7:Halts (StopG E Post W l0 OldB sh bs'):=⟨fun f cs l h=>⟨h.deep,h.calm⟩,fun f cs l t d h=>⟨h.deep,h.calm,h.keep,fun c g m p j=>h.good c g m p.re' j⟩⟩
theorem ZgG(hG:E.Fine)(v:∀b x,OldB b x->sh b∨(b=x/\x<l0.heap.size/\l0.heap[x]?=W.heap[x]?/\E.sh=false/\E.junk=false)) {f:Frame} {cs:List Frame} {l:World} (hL:LG E (StopG E Post W l0 OldB sh bs') f cs l):Zlg E Post W OldB sh bs' f cs l:=by
 intro B fa ca w gs sl t q h0 F hP hR c;refine Zk2 hG Zd7 hL h0 F hP hR ?_;intro L f₁ O l₁ Q N w₁ Z aA t₁ q₁ y C _ s H j p;have m:∀b x,L b x->x<W.heap.size->OldB b x:=by
  intro b x r A;rcases p.al b x r with h|⟨_,h,_⟩;·exact c.old b x h A
  ·have:=c.kept.size;omega
 refine y.good C s H j ⟨⟨ZBG c.kept.size p.size.1,fun x A=>?_,p.same.1.trans c.kept.os,p.same.2.trans c.kept.output⟩,m⟩;by_cases g:∀b,B b x->sh b;·rw[p.keep x (ZBJ A c.kept.size) g];exact c.kept.heap x A
 ·obtain⟨b,r⟩:=Classical.not_forall.1 g;obtain⟨r,K⟩:=Classical.not_imp.1 r;obtain⟨rfl,h1,h2,h3,h4⟩:=(v b x (c.old b x r A)).resolve_left K;have I:=p.le _ _ r;obtain⟨o,o',R,T,V⟩:=j.wr.obj _ _ I K;have e:=V.eq h4 (j.wr.sh h3).2.2;subst e;rw[T,<-R,y.keep _ h1,h2]
theorem Zlh{S:Side} {B:Blk} {l w w':World} {n:Nat} (hk:Kept1 w w')(r:E.sh=false->l.heap.size+n=w'.heap.size)(hS:∀i,¬S.till i)(h:WR E S B l w):WR E S B (pad l n) w':=by
 refine⟨h.fn,h.inj,fun b c f=>⟨by rw[Zcv];have:=(h.dom b c f).1;omega,ZBJ (h.dom b c f).2 hk.size⟩,fun b c f j=>?_,fun b c f j=>?_,fun i q p=>absurd p (hS _),h.glob,h.low,⟨by rw[Zcv];have:=h.gsz.1;omega,ZBG h.gsz.2 hk.size⟩,fun j=>⟨(h.sh j).1,by rw[Zcv];exact r j,(h.sh j).2.2⟩,fun g m=>⟨?_,(h.dark g m).2⟩⟩;·rw[Zcw l n (h.dom b c f).1,hk.heap c (h.dom b c f).2];exact h.obj b c f j
 ·rw[Zcw l n (h.dom b c f).1,hk.heap c (h.dom b c f).2];exact h.shr b c f j
 ·have:=(h.dark g m).1;rw[Zcw l n (Zyy.1 this).1];exact this
theorem Zli(Z:E.Fine)(s:∀b x,OldB b x->sh b∨(b=x/\x<l0.heap.size/\l0.heap[x]?=W.heap[x]?/\E.sh=false/\E.junk=false)) {f c:Frame} {cs:List Frame} {l:World} {R:Value->Prop} (N:cs≠[])(m:∀c,f.mode≠.panicking c)(p:∀x,x<l0.heap.size->l.heap[x]?=l0.heap[x]?)(O:∀{B:Blk} {fa:Frame} {ca:List Frame} {w:World},Rel E sh bs' B f (c::cs) l fa ca w->OldOk W OldB B w->ZdA E.P fa w R)(hR:∀v,R v->ZbA 8 v=true)(k:∀v n,R v->LG E (StopG E Post W l0 OldB sh bs') (c.finish v) cs (pad l n)):StopG E Post W l0 OldB sh bs' f (c::cs) l:=by
 refine⟨Qd,m,p,?_⟩;intro B fa ca w gs sl t q V I hP g K;obtain⟨r,j,rfl,y⟩:∃r j,ca=r::j/\ST E B [ZG E.P] bs' (c::cs) (r::j):=by have:=g.st;cases this with
  |last _ _ _ _=>exact absurd rfl N|cons _ _ _ ca hf A C=>cases ca with
   |nil=>cases C|cons r j=>exact⟨r,j,rfl,C⟩
 refine O g K V I hP fun {v w' T aA t' q'} Q A F H L=>?_;refine ZgG Z s (k v (w'.heap.size-w.heap.size) Q) F H L ⟨y.top (y.head.finish (VR.closed 8 v (hR v Q))) (Blk.le_refl _) (Zdr _ _),Zlh A (fun C=>?_) (fun i h=>h) g.wr,fun b hb=>?_⟩ ⟨K.kept.trans A,K.old⟩;·have:=(g.wr.sh C).2.1;have:=A.size;omega
 ·rw[Zcv];have:=g.low b hb;omega
theorem Zq2{P:Program} {Post:Value->World->Prop} {fa:Frame} {w:World} (h:∀{gs:Array Goroutine} {sl:Option (Nat×Nat)} {t:Trace} {q:Nat->Nat},gs[0]?=some (G fa [])->Leavers P t gs q->Past (fun _=>False) w.heap.size t->Fin P Post gs w sl t):Fin P Post #[G fa []] w none #[]:=h rfl (leavers_one P _) (past_nil.mono (ZB2 _))
end
variable {E0:Env}
structure Self (E:Env)(sh:Nat->Prop)(B:Blk)(l:World):Prop where
 wr:WR E ⟨sh,fun _=>True⟩ B l l
 low:∀b,sh b->b<l.heap.size
 idn:∀b b',B b b'->b=b'
section
variable {E:Env} {sh:Nat->Prop} {B:Blk} {l:World}
theorem Self.re(h:Self E sh B l)(t:Nat->Question->Nat)(d:Nat):Self E sh B (l.re t d):=⟨h.wr.retape rfl rfl rfl fun _ _ _=>rfl,h.low,h.idn⟩
theorem Self.unre{t:Nat->Question->Nat} {d:Nat} (h:Self E sh B (l.re t d)):Self E sh B l:=⟨h.wr.retape rfl rfl rfl fun _ _ _=>rfl,h.low,h.idn⟩
theorem Self.pad(h:Self E sh B l)(n:Nat):Self E sh B (pad l n):=by
 obtain⟨⟨y,w2,r,A,C,I,F,H,K,m,p⟩,v,x⟩:=h;refine⟨⟨y,w2,fun b f c=>?_,fun b f c j=>?_,fun b f c j=>?_,fun _ _ _=>rfl,F,H,?_,fun j=>⟨(m j).1,rfl,(m j).2.2⟩,fun g s=>⟨?_,(p g s).2⟩⟩,fun b c=>?_,x⟩;·rw[Zcv];have:=r b f c;omega
 ·rw[Zcw l n (r b f c).1,Zcw l n (r b f c).2];exact A b f c j
 ·rw[Zcw l n (r b f c).1,Zcw l n (r b f c).2];exact C b f c j
 ·rw[Zcv];omega
 ·have:=(p g s).1;rw[Zcw l n (Zyy.1 this).1];exact this
 ·rw[Zcv];have:=v b c;omega
theorem Zlj{a:Act} (h:Self E sh B l)(ha:AR E B a.tmps a.tmps):Ops E B a.eval a.eval:=by intro x c;cases x with|tmp t=>exact ha.getD t undefR|const v=>exact VR.closed 8 v c|global g=>exact .ptr _ _ (.mk _ _ _ _ (h.wr.glob g c))|func f=>exact Zl (.func f c) AR.empty AR.empty
theorem Zlk(hS:Self E sh B l) {α:Type} {Q:Blk->α->α->Prop} {s:Sem α} (h:SR E Q B s s) {t:Nat->Question->Nat} {d:Nat} {r:α} {w:World} (v:s.run E.P (l.re t d)=.ok r w):∃f,B.le f/\Self E sh f w/\Q f r r:=by
 have c:=h.both (hS.re t d).wr hS.low fun _ _ _=>trivial;rw[v]at c;obtain⟨f,b,w',y,m,A,g,p⟩:=c;cases m;refine⟨f,g.le,⟨g.wr.retape rfl rfl rfl fun _ _ _=>rfl,fun b c=>ZBJ (hS.low b c) g.size.2.1,fun b j c=>?_⟩,p⟩;rcases g.al b j c with x|⟨C,F,H⟩;·exact hS.idn _ _ x
 ·omega
theorem Zq3(j:E.Fine)(hS:Self E sh B l) {a:Act} (ha:AR E B a.tmps a.tmps) {o:Oper} (m:E.op o.op=true) {t:Nat->Question->Nat} {d:Nat} {v:Value} {w:World} (p:(execOp a.eval o).run E.P (l.re t d)=.ok (.value v) w):∃c,B.le c/\Self E sh c w/\VR E c v v/\AR E c (a.put o.dst v).tmps (a.put o.dst v).tmps:=by obtain⟨c,f,g,h⟩:=Zlk hS (Zib j (Zlj hS ha) (fun _ _=>rfl) m) p;cases h with|value v v' hv=>refine⟨c,f,g,hv,?_⟩;cases o.dst with|none=>exact ha.mono f|some x=>exact(ha.mono f).set x hv
theorem Zq4(h:E.Fine)(hS:Self E sh B l) {a:Act} (ha:AR E B a.tmps a.tmps) {o:Oper} (j:E.op o.op=true) {t:Nat->Question->Nat} {d:Nat} {w:World} (m:(execOp a.eval o).run E.P (l.re t d)=.ok .skip w):∃c,B.le c/\Self E sh c w/\AR E c (a.put o.dst undef).tmps (a.put o.dst undef).tmps:=by obtain⟨c,f,g,p⟩:=Zlk hS (Zib h (Zlj hS ha) (fun _ _=>rfl) j) m;refine⟨c,f,g,?_⟩;cases o.dst with|none=>exact ha.mono f|some x=>exact(ha.mono f).set x undefR
end
def Env.run(E0:Env)(tab:Code):Env:=E0.wide E0.good false tab
theorem Zll{E:Env} (h:Sub E0 E)(tab:Code):Sub (E0.run tab) E:=⟨h.P,h.glob,h.sh,h.nn,h.dark,fun x=>(by cases x),h.good,h.z0⟩
theorem ZfF(c:E0.junk=false)(tab:Code):Sub E0 (E0.run tab):=⟨rfl,rfl,rfl,rfl,rfl,fun h=>(by rw[c]at h;cases h),fun _ h=>h,fun h=>h⟩
theorem ZgH(tab:Code):Sub (E0.run tab) E0:=⟨rfl,rfl,rfl,rfl,rfl,fun h=>(by cases h),fun _ h=>h,fun h=>h⟩
section
variable {E0 E:Env} {sh:Nat->Prop} {B:Blk} {l:World} {Stop:Frame->List Frame->World->Prop} {b:Frame} {a:Act} {k:List Item} {cs:List Frame} {ops:Array Oper} {i:Nat} {rest:List Nat} {o:Oper}
theorem Zap(hS:Halts Stop)(f:Sub E0 E)(A:E0.Fine)(hs:Self E0 sh B l)(ha:AR E0 B a.tmps a.tmps)(F:ops[i]?=some o)(hw:Region.wanted o (yielded ops a.tmps)=true)(hk:b.kind≠.early)(g:E0.op o.op=true)(h:∀t d (K:Result Next->Prop),(∀v W,(∀c,B.le c->Self E0 sh c W->AR E0 c (a.put o.dst v).tmps (a.put o.dst v).tmps->LG E Stop (b.at (a.put o.dst v) (.inRegion ops rest::k)) cs W)->K (.ok (.value v) (W.re t d)))->(∀W,(∀c,B.le c->Self E0 sh c W->AR E0 c (a.put o.dst undef).tmps (a.put o.dst undef).tmps->LG E Stop (b.at (a.put o.dst undef) (.inRegion ops rest::k)) cs W)->K (.ok .skip (W.re t d)))->K ((execOp a.eval o).run E0.P (l.re t d))):LG E Stop (b.at a (.inRegion ops (i::rest)::k)) cs l:=by
 refine ZS hS F hw hk (f.op _ g) fun t d K H I=>?_;have x:=h t d (fun r=>(execOp a.eval o).run E0.P (l.re t d)=r->K r) (fun v W p s=>?_) (fun W p s=>?_) rfl;·rw[f.P];exact x
 ·obtain⟨c,j,m,y,C⟩:=Zq3 A hs ha g s;exact H v W (p c j m.unre C)
 ·obtain⟨c,j,m,y⟩:=Zq4 A hs ha g s;exact I W (p c j m.unre y)
theorem Zlm(hG:E0.Fine)(hF:Strict E0)(aA:∀tab,(E0.run tab).Fine)(N:Sub E0 E) {tab:Code} {f fa c:Frame} {bs:List Frame} {R:Value->World->Prop} (hS:Self E0 sh B l)(hf:FR E0 B f f)(H:f.roundOf=none)(aD:FR (E0.run tab) B f fa)(hR:∀v w t d,R v w->R v (w.re t d))(hc:∀t d,∃n V w' v,runN E0.P n (lone f [ZG E0.P] (l.re t d))=.next (lone V [ZG E0.P] w')/\V.leaving E0.P w' (.returned v)/\R v w')(k:∀v l' F,R v l'->B.le F->Self E0 sh F l'->VR E0 F v v->LG E Stop (c.finish v) bs l'):LG E Stop fa (c::bs) l:=by
 have hO:Own E0 sh [ZG E0.P] f [ZG E0.P] l B:=⟨.last _ _ hf H,hS.wr,hS.low,hS.idn⟩;have hL:LG E0 (Ret E0.P R) f [ZG E0.P] l:=Zfz (s:=⟨f,[ZG E0.P],l⟩) hG hF (ZeG E0.P R) ⟨⟨B,hO⟩,fun t d=>by obtain⟨n,V,w',v,C,y,Z⟩:=hc t d;exact⟨n,V,_,w',C,rfl,v,w'.tape,w'.drawn,y,Z⟩⟩;have aB:=hL.sub (ZfF hF.junk tab);have aC:Own2 (E0.run tab) sh (c::bs) f [ZG E0.P] l fa (c::bs) B:=⟨.last _ _ aD H,(ZfF hF.junk tab).wr hS.wr,hS.low,hS.idn⟩;have Q:LG (E0.run tab) (fun f cs l=>LG E Stop f cs l) fa (c::bs) l:=by refine Zii (bs':=c::bs) (aA tab) rfl (ZeG E0.P R) aB aC ?_;rintro B₁ f₁ aJ O p aH ⟨rfl,v,t,d,hl,hr⟩ aF m;have r:=m.st;cases r with
  |cons f f' cs cs' hf _ hs=>cases hs with|cons _ _ _ _ _ _ h=>cases h
  |last _ _ hf hrd=>
   obtain⟨hm,hd,hk,fn,aE,L⟩:=hl;have et:f₁.tmps=p.tmps:=hf.tmps.eq (show (E0.run tab).junk=false from rfl) m.idn;have hA:=hf.tmps;rw[<-et]at hA;have A:=SR.retape (E:=E0.run tab) rfl (Zft fn hA) m.wr m.low m.idn (t:=t) (d:=d) (v:=v) L;have K:∀j g,p.leaving E0.P (O.re j g) (.returned v):=by
    intro j g;refine⟨?_,?_,(by
     rcases hf.kind.2 with h|⟨h,_⟩;·exact h
     ·have y:E0.dfr f₁.fn=true:=h;rw[hF.dfr]at y;cases y),fn,hf.fn▸aE,?_⟩
    ·rcases hf.mode with⟨C,y⟩|⟨C,y⟩;·rw[hm]at C;cases C
     ·exact y
    ·have:=hf.defers;rw[hd]at this;generalize p.defers=x at this |-;cases this;rfl
    ·have h:=(A j g).1;rw[<-et];exact h
   have I:∀j g,∃T,stepG E0.P true (G p (c::bs)) (O.re j g)=.go (G (c.finish v) bs) (O.re j g) T:=fun j g=>Zk3 (K j g);refine .step _ _ _ (fun aG=>?_) (fun j g=>?_) fun j g g1 aI l1 aK r=>?_;·exfalso;have:=(K t d).1;rw[aG]at this;cases this
   ·obtain⟨T,h⟩:=I j g;exact⟨_,_,_,_,h⟩
   ·obtain⟨T,h⟩:=I j g;have h':stepG (E0.run tab).P true (G p (c::bs)) (O.re j g)=.go (G (c.finish v) bs) (O.re j g) T:=h;rw[h']at r;simp only[GStep.go.injEq,G,Goroutine.mk.injEq,and_true]at r;obtain⟨⟨rfl,rfl⟩,rfl,_⟩:=r;obtain⟨F,C,y,Z,h4⟩:=(A j g).2;refine .stop _ _ _ (k v _ F ?_ (Blk.le_trans aF C) ⟨(ZgH tab).wr (Z.retape rfl rfl rfl fun _ _ _=>rfl),m.low,y⟩ ((ZgH tab).vr h4));have:=hR _ _ j g hr;exact this
 exact(Q.sub (Zll N tab)).trans fun f cs l h=>h
theorem ZeK{f:Env} {F:Nat} (ha:AR f B a.tmps a.tmps) (h:a.defers=[]) {g c:List Item} (j:KR f B g c):FR f B ((base F).at a g) ((base F).at a c):=⟨rfl,ha,j,(by show DR B a.defers a.defers;rw[h];exact .nil),.inl ⟨rfl,rfl⟩,⟨rfl,.inl rfl⟩,.inl ⟨rfl,rfl⟩⟩
theorem Zln(m:E0.Fine)(hF:Strict E0)(f:∀tab,(E0.run tab).Fine)(h:Sub E0 E) {g:FuncId} {args:Array Value} {R:Value->World->Prop} (p:E0.good g=true)(hS:Self E0 sh B l)(ha:AR E0 B args args)(hR:∀v w t d,R v w->R v (w.re t d))(s:∀t d,Calls E0.P g args (l.re t d) fun e w=>∃v,e=.returned v/\R v w) {c:Frame} {bs:List Frame} (k:∀v l' j,R v l'->B.le j->Self E0 sh j l'->VR E0 j v v->LG E Stop (c.finish v) bs l'):LG E Stop (Frame.enter E0.P g args .normal) (c::bs) l:=by have C:Sub E0 (E0.run (.refuse "#")):=ZfF hF.junk _;refine Zlm (tab:=.refuse "#") (R:=R) m hF f h hS (ZeE m p ha) rfl (ZeE (f _) p (C.ar ha)) hR (fun t d=>?_) k;obtain⟨e,w',r,⟨v,rfl,A⟩,⟨n,y⟩,_,x⟩:=s t d [ZG E0.P];exact⟨n,r,w',v,y,x,A⟩
theorem Zlo(F:Halts Stop)(C:E0.Fine)(hF:Strict E0)(m:∀tab,(E0.run tab).Fine)(c:Sub E0 E) {g:FuncId} {args:Array Value} {R:Value->World->Prop} (hS:Self E0 sh B l)(h:AR E0 B a.tmps a.tmps)(r:ops[i]?=some o)(hw:Region.wanted o (yielded ops a.tmps)=true)(hk:b.kind≠.early)(p:E0.op o.op=true)(K:∀w,(execOp a.eval o).run E0.P w=.ok (.enter g args) w)(I:E0.good g=true)(ha:AR E0 B args args)(hR:∀v w t d,R v w->R v (w.re t d))(H:∀t d,Calls E0.P g args (l.re t d) fun e w=>∃v,e=.returned v/\R v w)(L:∀v l' f,R v l'->B.le f->Self E0 sh f l'->AR E0 f (a.put o.dst v).tmps (a.put o.dst v).tmps->LG E Stop (b.at (a.put o.dst v) (.inRegion ops rest::k)) cs l'):LG E Stop (b.at a (.inRegion ops (i::rest)::k)) cs l:=by refine ZcQ F r hw hk (c.op _ p) (fun w=>by rw[c.P];exact K w) ?_;rw[c.P];refine Zln C hF m c I hS ha hR H fun v l' f s j y A=>?_;rw[Frame.finish_at,r];refine L v l' f s j y ?_;show AR E0 f (a.put o.dst v).tmps (a.put o.dst v).tmps;cases o.dst with|none=>exact h.mono j|some x=>exact(h.mono j).set x A
theorem Zlp(K:E0.Fine)(hF:Strict E0)(s:∀tab,(E0.run tab).Fine)(m:Sub E0 E) {F:Nat} {fn:Func} {x:Code} {R:Value->World->Prop} (hS:Self E0 sh B l)(ha:AR E0 B a.tmps a.tmps)(A:a.defers=[])(hx:E0.code x=true)(j:E0.P.funcs[F]?=some fn)(hR:∀v w t d,R v w->R v (w.re t d))(L:∀t d,x.wp E0.P (fun e r w'=>(e=.ret∨e=.normal)/\r.defers=[]/\∃v,(results fn r.tmps).run E0.P w'=.ok v w'/\R v w') a (l.re t d)) {c:Frame} {bs:List Frame} (k:∀v l' p,R v l'->B.le p->Self E0 sh p l'->VR E0 p v v->LG E Stop (c.finish v) bs l'):LG E Stop ((base F).at a [.code x]) (c::bs) l:=by
 have O:Sub E0 (E0.run (.refuse "#")):=ZfF hF.junk _;refine Zlm (tab:=.refuse "#") (R:=R) K hF s m hS (ZeK ha A (.cons _ _ _ _ (.code _ (E0.ok_of hx)) .nil)) rfl (ZeK (O.ar ha) A (.cons _ _ _ _ (.code _ ⟨ZbY x hx,fun h=>(by cases h)⟩) .nil)) hR (fun t d=>?_) k;obtain⟨e,r,w',⟨N,g,v,H,C⟩,f⟩:=L t d (base F) [] [ZG E0.P];rcases N with rfl|rfl;·obtain⟨I,n,y⟩:=f;exact⟨n,_,w',v,y,⟨rfl,g,rfl,fn,j,H⟩,C⟩
 ·obtain⟨n,y⟩:=Steps.trans f (.one step_end);exact⟨n,_,w',v,y,⟨rfl,g,rfl,fn,j,H⟩,C⟩
def Zlq(P:Program)(F:Nat)(R:Act->World->Prop)(f:Frame)(cs:List Frame)(l:World):Prop:=cs=[ZG P]/\∃a t d,f=(base F).at a [.code (.refuse "#")]/\a.defers=[]/\R a (l.re t d)
theorem Zb1(hG:E0.Fine)(hF:Strict E0)(T:∀tab,(E0.run tab).Fine)(C:Sub E0 E) {F:Nat} {x tail:Code} {R:Act->World->Prop} (hS:Self E0 sh B l)(ha:AR E0 B a.tmps a.tmps)(hd:a.defers=[])(hx:E0.code x=true)(hR:∀v w t d,R v w->R v (w.re t d))(A:∀t d,x.wp E0.P (fun e a' w'=>e=.normal/\a'.defers=[]/\R a' w') a (l.re t d))(k':∀a' l' L,R a' l'->a'.defers=[]->B.le L->Self E0 sh L l'->AR E0 L a'.tmps a'.tmps->LG E Stop ((base F).at a' [.code tail]) cs l'):LG E Stop ((base F).at a [.code x,.code tail]) cs l:=by
 have hw:Sub E0 (E0.run tail):=ZfF hF.junk _;have aB:KR E0 B [.code (.refuse "#")] [.code (.refuse "#")]:=by have h:=KR.cons (E:=E0) (B:=B) _ _ _ _ .mark .nil;rw[hF.tab]at h;exact h
 have hO:Own E0 sh [ZG E0.P] ((base F).at a [.code x,.code (.refuse "#")]) [ZG E0.P] l B:=⟨.last _ _ (ZeK ha hd (.cons _ _ _ _ (.code _ (E0.ok_of hx)) aB)) rfl,hS.wr,hS.low,hS.idn⟩;have hH:Halts (Zlq E0.P F R):=⟨fun f cs l h=>by obtain⟨rfl,a,t,d,rfl,_⟩:=h;exact⟨Qd,fun c A=>by cases A⟩,fun f cs l t d h=>by obtain⟨h0,a,t',d',N,p,O⟩:=h;exact⟨h0,a,t',d',N,p,O⟩⟩;have hL:LG E0 (Zlq E0.P F R) ((base F).at a [.code x,.code (.refuse "#")]) [ZG E0.P] l:=Zfz (s:=⟨_,[ZG E0.P],l⟩) hG hF hH ⟨⟨B,hO⟩,fun t d=>by obtain⟨e,a',w',⟨rfl,j,hr⟩,n,hn⟩:=A t d (base F) [.code (.refuse "#")] [ZG E0.P];exact⟨n,_,_,w',hn,rfl,a',w'.tape,w'.drawn,rfl,j,hr⟩⟩;have V:=hL.sub hw;have Z:Own2 (E0.run tail) sh cs ((base F).at a [.code x,.code (.refuse "#")]) [ZG E0.P] l ((base F).at a [.code x,.code tail]) cs B:=⟨.last _ _ (ZeK (hw.ar ha) hd (.cons _ _ _ _ (.code _ ⟨ZbY x hx,fun h=>(by cases h)⟩) (.cons _ _ _ _ .mark .nil))) rfl,hw.wr hS.wr,hS.low,hS.idn⟩;have H:LG (E0.run tail) (fun f cs l=>LG E Stop f cs l) ((base F).at a [.code x,.code tail]) cs l:=by refine Zii (bs':=cs) (T tail) rfl hH V Z ?_;rintro I f₁ aF K m aE ⟨rfl,a',t,d,rfl,j,hr⟩ aA g;have aD:=g.st;cases aD with
  |cons f f' cs cs' hf _ hs=>cases hs with|cons _ _ _ _ _ _ h=>cases h
  |last _ _ hf hrd=>
   have et:a'.tmps=m.tmps:=hf.tmps.eq (show (E0.run tail).junk=false from rfl) g.idn;have hA:AR (E0.run tail) I a'.tmps a'.tmps:=by have:=hf.tmps;rw[<-et]at this;exact this
   have e:m=(base F).at a' [.code tail]:=by
    obtain⟨N,p,O,h4,h5,h6,h7⟩:=hf;obtain⟨fn,tm,td,ds,md,kd,rd⟩:=m;have e1:fn=F:=N.symm;have e2:tm=a'.tmps:=et.symm;have e3:td=[.code tail]:=by have Q:KR (E0.run tail) I [.code (.refuse "#")] td:=O;cases Q with|cons y y' k k' hy hs=>cases hs;cases hy with
      |code c A=>exact absurd A.1 (by simp[Zat])|mark=>rfl
    have e4:ds=a'.defers:=by have r:DR I a'.defers ds:=h4;rw[j]at r |-;cases r;rfl
    have e5:md=.run:=by
     rcases h5 with⟨_,x⟩|⟨x,_⟩;·exact x
     ·cases x
    have e6:kd=.normal:=by
     rcases h6.2 with x|⟨x,_⟩;·exact x
     ·have p:E0.dfr F=true:=x;rw[hF.dfr]at p;cases p
    have e7:rd=none:=by
     rcases h7 with⟨_,x⟩|⟨_,_,x,_⟩;·exact x
     ·cases x
    subst e1 e2 e3 e4 e5 e6 e7;rfl
   rw[e];have aC:R a' K:=by have:=hR _ _ K.tape K.drawn hr;exact this
   exact .stop _ _ _ (k' a' K I aC j aA ⟨(ZgH tail).wr g.wr,g.low,g.idn⟩ ((ZgH tail).ar hA))
 exact(H.sub (Zll C tail)).trans fun f cs l h=>h
theorem Zir(H:E0.Fine)(hF:Strict E0)(m:Sub E0 E) {F:Nat} {fn:Func} {x:Code} {R:Value->World->Prop} (hS:Self E0 sh B l)(ha:AR E0 B a.tmps a.tmps)(O:a.defers=[])(hx:E0.code x=true)(c:E0.P.funcs[F]?=some fn)(N:∀t d,x.wp E0.P (fun e p w'=>(e=.ret∨e=.normal)/\p.defers=[]/\∃v,(results fn p.tmps).run E0.P w'=.ok v w'/\R v w') a (l.re t d))(k:∀f l',Ret E0.P R f [ZG E0.P] l'->f.fn=F->LG E Stop f [ZG E0.P] l'):LG E Stop ((base F).at a [.code x]) [ZG E0.P] l:=by
 have L:Own E0 sh [ZG E0.P] ((base F).at a [.code x]) [ZG E0.P] l B:=⟨.last _ _ (ZeK ha O (.cons _ _ _ _ (.code _ (E0.ok_of hx)) .nil)) rfl,hS.wr,hS.low,hS.idn⟩;have I:Halts (fun f cs l=>Ret E0.P R f cs l/\f.fn=F):=⟨fun f cs l h=>(ZeG E0.P R).call f cs l h.1,fun f cs l t d h=>⟨(ZeG E0.P R).tape f cs l t d h.1,h.2⟩⟩;have K:LG E0 (fun f cs l=>Ret E0.P R f cs l/\f.fn=F) ((base F).at a [.code x]) [ZG E0.P] l:=Zfz (s:=⟨_,[ZG E0.P],l⟩) H hF I ⟨⟨B,L⟩,fun t d=>by
  obtain⟨e,p,w',⟨Q,j,v,A,y⟩,g⟩:=N t d (base F) [] [ZG E0.P];rcases Q with rfl|rfl;·obtain⟨C,n,r⟩:=g;exact⟨n,_,_,w',r,⟨rfl,v,w'.tape,w'.drawn,⟨rfl,j,rfl,fn,c,A⟩,y⟩,rfl⟩
  ·obtain⟨n,r⟩:=Steps.trans g (.one step_end);exact⟨n,_,_,w',r,⟨rfl,v,w'.tape,w'.drawn,⟨rfl,j,rfl,fn,c,A⟩,y⟩,rfl⟩⟩;refine(K.sub m).trans ?_;rintro f cs l ⟨⟨rfl,h⟩,c⟩;exact k f l ⟨rfl,h⟩ c
end
section
variable {G:Env} {B:Blk}
theorem Zlr:∀(n:Nat)(c:ByteArray) {a a':Addr} {B:Blk},AddrR B a a'->SR G QE B (Extern.Bytes.loadBytes a n c) (Extern.Bytes.loadBytes a' n c)
 |0,c,a,a',B,h=>Zy rfl|n+1,c,a,a',B,h=>by
  unfold Extern.Bytes.loadBytes;refine Za (Zfn h) fun j v p f g=>?_;cases g<;>try exact SR.halt _ (.stuck _) _ trivial
  rename_i k m;cases k<;>first|exact SR.halt _ (.stuck _) _ trivial|exact Zlr n _ ((h.mono f).add 1)
theorem ZgI{v c:Value} (h:VR G B v c):SR G QE B (Extern.Bytes.bytesOf v) (Extern.Bytes.bytesOf c):=by unfold Extern.Bytes.bytesOf;cases h<;>first|exact SR.halt _ (.stuck _) _ trivial|exact Zy rfl|exact Zlr _ _ ‹_›
theorem Zls{v c:Value} (h:VR G B v c):SR G QE B (Extern.Bytes.asByte v) (Extern.Bytes.asByte c):=by
 unfold Extern.Bytes.asByte;cases h<;>try exact SR.halt _ (.stuck _) _ trivial
 rename_i k m;cases k<;>first|exact SR.halt _ (.stuck _) _ trivial|exact Zy rfl
theorem two_of {xs xs' : Array Value} (h : AR G B xs xs') : (∃ a b c f, xs = #[a, b] /\ xs' = #[c, f] /\ VR G B a c /\ VR G B b f) ∨ (xs.size ≠ 2 /\ xs'.size ≠ 2) := by
  by_cases g : xs.size = 2
  · left
    have j : xs'.size = 2 := h.size ▸ g
    obtain ⟨l⟩ := xs
    obtain ⟨l'⟩ := xs'
    match l, l', g, j with
    | [a, b], [c, f], _, _ => exact ⟨a, b, c, f, rfl, rfl, h.at_ 0 _ _ rfl rfl, h.at_ 1 _ _ rfl rfl⟩
  · exact .inr ⟨g, h.size ▸ g⟩
theorem Zq5{xs xs':Array Value} (h:AR G B xs xs'):SR G (QV G) B (Extern.BytealgCount.count xs) (Extern.BytealgCount.count xs'):=by
 rcases two_of h with⟨a,b,x,y,rfl,rfl,j,m⟩|⟨f,g⟩
 ·unfold Extern.BytealgCount.count;refine ZH (ZgI j) fun r s f=>?_;refine ZH (Zls (m.mono f)) fun v c g=>?_;exact Zy (Zck _)
 ·have e:∀ys:Array Value,ys.size≠2->Extern.BytealgCount.count ys=stuck "bytealg.Count: two arguments expected":=by intro ys p;obtain⟨l⟩:=ys;match l,p with
   |[],_=>rfl|[_],_=>rfl|[_,_],h=>exact absurd rfl h|_::_::_::_,_=>rfl
  rw[e _ f,e _ g];exact SR.halt _ (.stuck _) _ trivial
theorem Zq6{xs xs':Array Value} (h:AR G B xs xs'):SR G (QV G) B (Extern.BytealgIndexByte.indexByte xs) (Extern.BytealgIndexByte.indexByte xs'):=by
 rcases two_of h with⟨a,b,x,y,rfl,rfl,j,m⟩|⟨f,g⟩
 ·unfold Extern.BytealgIndexByte.indexByte;refine ZH (ZgI j) fun r s f=>?_;refine ZH (Zls (m.mono f)) fun v c g=>?_;split<;>exact Zy (Zck _)
 ·have e:∀ys:Array Value,ys.size≠2->Extern.BytealgIndexByte.indexByte ys=stuck "bytealg.IndexByte: two arguments expected":=by intro ys p;obtain⟨l⟩:=ys;match l,p with
   |[],_=>rfl|[_],_=>rfl|[_,_],h=>exact absurd rfl h|_::_::_::_,_=>rfl
  rw[e _ f,e _ g];exact SR.halt _ (.stuck _) _ trivial
theorem Zq7(s:∀g,G.P.globals.findIdx? (·.name== "internal/bytealg.MaxLen")=some g->G.glob g=true):SR G QE B Extern.BytealgIndex.maxLen Extern.BytealgIndex.maxLen:=by
 unfold Extern.BytealgIndex.maxLen globalAddr;refine .bij _ _ _ fun m=>?_;refine Za (Q:=fun B a f=>AddrR B a f) (Za ZbM fun j p F h x=>?_) fun j a f h r=>Za (Zfn r) fun A v H C y=>ZeA y;obtain⟨rfl,rfl⟩:=x;split;·rename_i g c;exact Zy (.mk _ _ _ _ (h _ _ (m.glob g (s g c))))
 ·exact SR.halt _ (.stuck _) _ trivial
theorem Zq8(v:∀g,G.P.globals.findIdx? (·.name== "internal/bytealg.MaxLen")=some g->G.glob g=true) {xs xs':Array Value} (h:AR G B xs xs'):SR G (QV G) B (Extern.BytealgIndex.index xs) (Extern.BytealgIndex.index xs'):=by
 rcases two_of h with⟨a,b,F,H,rfl,rfl,p,r⟩|⟨f,j⟩
 ·unfold Extern.BytealgIndex.index;refine ZH (ZgI p) fun y s f=>?_;refine ZH (ZgI (r.mono f)) fun A c j=>?_;dsimp only;refine ZH (Zq7 v) fun C m I=>?_;split;·exact SR.halt _ (.unsupported (.noEntry _)) _ trivial
  ·split;·exact SR.halt _ (.unsupported (.noEntry _)) _ trivial
   ·split<;>exact Zy (Zck _)
 ·have e:∀ys:Array Value,ys.size≠2->Extern.BytealgIndex.index ys=stuck "bytealg.Index: two arguments expected":=by intro ys x;obtain⟨l⟩:=ys;match l,x with
   |[],_=>rfl|[_],_=>rfl|[_,_],h=>exact absurd rfl h|_::_::_::_,_=>rfl
  rw[e _ f,e _ j];exact SR.halt _ (.stuck _) _ trivial
end
end Go.Twin
namespace Go.Twin
open Go.Conc
open Go.ConcN (upd)
section
variable (E:Env)(W0:World)(J:Nat->Option Job)(U:Nat->Prop)(Ch:Option Nat)(Post:Value->World->Prop)(sh:Nat->Prop)(bs:List Frame)
structure Goes1 (n:Node):Prop where go:KGo E W0 J U Ch Post n
structure Turn1 (n:Node):Prop where go:Zdu E W0 J U Ch Post n
def ZdB(f:Frame)(cs:List Frame)(l:World):Prop:=∀n:Node,n.sh=sh->n.bs=bs->n.f=f->n.cs=cs->(∃t d,n.l=l.re t d)->Goes1 E W0 J U Ch Post n
structure StopK (f:Frame)(cs:List Frame)(l:World):Prop where
 deep:cs≠[]
 calm:∀c,f.mode≠.panicking c
 good:∀n:Node,n.sh=sh->n.bs=bs->n.f=f->n.cs=cs->(∃t d,n.l=l.re t d)->Turn1 E W0 J U Ch Post n
end
section
variable {E:Env} {W0:World} {J:Nat->Option Job} {U:Nat->Prop} {Ch:Option Nat} {Post:Value->World->Prop} {sh:Nat->Prop} {bs:List Frame}
theorem ZU:Halts (StopK E W0 J U Ch Post sh bs):=⟨fun f cs l h=>⟨h.deep,h.calm⟩,fun f cs l t d h=>⟨h.deep,h.calm,fun n g j m p ⟨s,c,r⟩=>h.good n g j m p ⟨s,c,r⟩⟩⟩
theorem ZfG(r:E.Fine)(c:E.sh=true)(s:∀k j,J k=some j->ZcP E j) {f:Frame} {cs:List Frame} {l:World} (hL:LG E (StopK E W0 J U Ch Post sh bs) f cs l):ZdB E W0 J U Ch Post sh bs f cs l:=by rintro n rfl rfl rfl rfl ⟨t,d,v⟩;refine⟨ZqE r c s (ZU (sh:=n.sh) (bs:=n.bs)) (by rw[v];exact hL.re ZU t d) fun h m p x g=>?_⟩;exact(g.good h m p rfl rfl ⟨h.l.tape,h.l.drawn,rfl⟩).go
variable {b:Frame} {a:Act} {ops:Array Oper} {i:Nat} {rest:List Nat} {o:Oper} {k:List Item} {cs:List Frame} {l:World}
theorem Zis{f:List Item}:∀c,(b.at a f).mode≠.panicking c:=fun c h=>by cases h
theorem Zq9(m:E.sh=true)(h:cs≠[])(p:ops[i]?=some o)(v:o.guard=none)(hrun:∀(a:Act) (w:World),(execOp a.eval o).run E.P w=.ok (.value (.chan (some w.heap.size))) (w.alloc (.chan 1 #[] false 0 0 false))) (j:∀(a:Act) (w:World),(execOp a.eval o).events E.P w #[]=#[])(A:∀c,W0.heap.size<=c->ZdB E W0 J U (some c) Post sh bs (b.at (a.put o.dst (.chan (some c))) (.inRegion ops rest::k)) cs l):StopK E W0 J U none Post sh bs (b.at a (.inRegion ops (i::rest)::k)) cs l:=by refine⟨h,Zis,?_⟩;rintro n rfl rfl g rfl y;refine⟨ZqG m (fun r=>ZqQ (n:=n) (by rw[g];rfl) (by rw[g];rfl) (by rw[g];rfl) p v hrun j r) fun c s=>?_⟩;have x:=A c s {n with f:=n.f.finish (.chan (some c))} rfl rfl (by show n.f.finish _=_;rw[g,Frame.finish_at,p];rfl) rfl y;exact @x.go
theorem Zlt(r:E.Fine)(m:E.sh=true)(s:∀k j,J k=some j->ZcP E j)(g:cs≠[]) {K:Nat} {j:Job} (y:0<K)(I:J K=some j)(C:U K)(F:∀v,j.V v->ZbA 8 v=true)(p:ops[i]?=some o)(H:o.guard=none) {x:Nat} {zz:Value} (hx:a.tmps.getD x undef=.chan (some j.ch))(hrun:∀(ρ:Operand->Value)(w:World),(execOp ρ o).run E.P w=.ok (.comm #[{chan:=ρ (.tmp x),send:=none,zero:=zz}] true (.recv false)) w)(h:∀(ρ:Operand->Value)(w:World),(execOp ρ o).events E.P w #[]=#[])(Q:∀v,j.V v->ZdB E W0 J (fun x=>U x/\x≠K) none Post sh bs (b.at (a.put o.dst v) (.inRegion ops rest::k)) cs l):StopK E W0 J U none Post sh bs (b.at a (.inRegion ops (i::rest)::k)) cs l:=by refine⟨g,Zis,?_⟩;rintro n rfl rfl c rfl N;refine⟨ZqF r m s y I C F (fun A=>ZqP (n:=n) (by rw[c];rfl) (by rw[c];rfl) (by rw[c];rfl) p H (by rw[c];exact hx) hrun h A) fun v O=>?_⟩;have L:=Q v O {n with f:=n.f.finish v} rfl rfl (by show n.f.finish _=_;rw[c,Frame.finish_at,p];rfl) rfl N;exact @L.go
theorem Zra{S:Env} (p:SubG S E E)(I:E.junk=true)(Q:∀g,E.dark g=false)(H:E.sh=true)(r:E.free=true)(R:∀g,E.glob g=false)(N:cs≠[]) {X Y:Nat->Prop} {c F x:Nat} (O:E.dfr F=true) {V:Value->Prop} {fn:Func} {body:Code} {cap:Array Value} (ho:ops[i]?=some o)(hg:o.guard=none)(hd:o.dst=none)(hx:a.tmps.getD x undef=.func (.func F) #[] cap)(hrun:∀(ρ:Operand->Value)(m:Array Value)(w:World),ρ (.tmp x)=.func (.func F) #[] m->(execOp ρ o).run E.P w=.ok (.spawn {target:=.fn (.func F) m,args:=#[]}) w/\(execOp ρ o).events E.P w #[]=#[])(hf:E.P.funcs[F]?=some fn)(hb:fn.body=some body)(s:(fn.name== "runtime.NumGoroutine")=false)(aA:Zat body=true)(hcap:∀v∈cap,VR S (idX fun b=>X b∨Y b) v v)(hX:∀b,X b->sh b)(hcl:Zbi S X l)(hY:∀b,Y b->∃c T f,l.heap[b]?=some (.cells c T f))(hL:LG E (ZbZ E.P F c V) ((base F).at ⟨cap++Array.replicate (fn.ntmps-cap.size) undef,[]⟩ [.code body]) [ZG E.P] (sanW S (fun b=>X b∨Y b) Y l))(kk:∀K,0<K->J K=none->ZdB E W0 (upd J K (some ⟨c,V,[bot E.P],ZbZ E.P F c V⟩)) (fun x=>U x∨x=K) none Post (fun b=>sh b∨Y b) bs (b.at (a.put o.dst undef) (.inRegion ops rest::k)) cs (sanW S (fun b=>X b∨Y b) Y l)):StopK E W0 J U (some c) Post sh bs (b.at a (.inRegion ops (i::rest)::k)) cs l:=by
 refine⟨N,Zis,?_⟩;rintro n rfl rfl h rfl ⟨t,d,Z⟩;have y:∀b,Y b->∃c T f,n.l.heap[b]?=some (.cells c T f):=fun b hb=>by rw[Z];exact hY b hb
 have A:Zbi S X n.l:=fun b hb=>by rw[Z];exact hcl b hb
 refine⟨@ZqJ E W0 J U (some c) Post n {n with sh:=fun b=>n.sh b∨Y b,l:=sanW S (fun b=>X b∨Y b) Y n.l} (fun L=>Zq0 (X:=X) p I H y L) (fun b' x hb=>⟨b',hb,.inl⟩) ?_⟩;have C:sanW S (fun b=>X b∨Y b) Y n.l=(sanW S (fun b=>X b∨Y b) Y l).re t d:=by rw[Z];rfl
 intro M S0 gs w sl t0 q fa ca j;refine ZqH (n:={ n with sh:=fun b=>n.sh b∨Y b,l:=sanW S (fun b=>X b∨Y b) Y n.l }) (jb:=⟨c,V,[bot E.P],ZbZ E.P F c V⟩) rfl (nK:=⟨fun b=>X b∨Y b,[bot E.P],n.B.on fun b=>X b∨Y b,(base F).at ⟨cap++Array.replicate (fn.ntmps-cap.size) undef,[]⟩ [.code body],[ZG E.P],sanW S (fun b=>X b∨Y b) Y n.l,ZbZ E.P F c V⟩) rfl rfl (Zin _ _ _ _)
  (by rw[C];exact hL.re (Zin _ _ _ _) t d) (fun b x hb=>⟨hb.2,b,hb.1,hb.2.imp (hX b) id⟩) (fun L=>?_) (fun K h1 h2=>?_) j;·exact ZqS (S:=S) (n:={n with sh:=fun b=>n.sh b∨Y b,l:=sanW S (fun b=>X b∨Y b) Y n.l}) p Q H r R O (by rw[h];rfl) (by rw[h];rfl) (by rw[h];rfl) ho hg hd (by rw[h];exact hx) hrun hf hb s aA hcap (fun b hb=>hb.imp (hX b) id) (Ziq A y) L
 ·have hk:=kk K h1 h2 {n with sh:=fun b=>n.sh b∨Y b,l:=sanW S (fun b=>X b∨Y b) Y n.l,f:=n.f.finish undef} rfl rfl (by show n.f.finish _=_;rw[h,Frame.finish_at,ho];rfl) rfl ⟨t,d,C⟩;exact @hk.go
inductive Forget:List Value->List Value->Prop|nil:Forget [] []|keep (v:Value) (l l':List Value) (h:Forget l l'):Forget (v::l) (v::l')|drop (v:Value) (l l':List Value) (hb:bare v=true) (h:Forget l l'):Forget (v::l) (undef::l')
theorem ZgJ:∀{l l':List Value},Forget l l'->l'.length=l.length/\∀(i:Nat) v,l'[i]?=some v->l[i]?=some v∨(v=undef/\∃u,l[i]?=some u/\bare u=true)
 |_,_,.nil=>⟨rfl,fun i v h=>by simp at h⟩|_,_,.keep v l l' h=>by obtain⟨f,g⟩:=ZgJ h;refine⟨by simp[f],fun i u c=>?_⟩;cases i with
  |zero=>exact .inl c|succ i=>exact g i u c
 |_,_,.drop v l l' hb h=>by obtain⟨f,g⟩:=ZgJ h;refine⟨by simp[f],fun i u c=>?_⟩;cases i with|zero=>cases c;exact .inr ⟨rfl,v,rfl,hb⟩|succ i=>exact g i u c
theorem Zrb(r:E.junk=true) {a':Act} {m:List Item} (I:a'.defers=a.defers)(s:a'.tmps.size=a.tmps.size)(hs:∀(i:Nat) v,a'.tmps[i]?=some v->a.tmps[i]?=some v∨(v=undef/\∃u,a.tmps[i]?=some u/\bare u=true))(h:ZdB E W0 J U Ch Post sh bs (b.at a' m) cs l):ZdB E W0 J U Ch Post sh bs (b.at a m) cs l:=by
 rintro n rfl rfl A rfl L;have K:=h {n with f:=b.at a' m} rfl rfl rfl rfl L;refine⟨@ZqI E W0 J U Ch Post n {n with f:=b.at a' m} (fun {fa ca w} j=>?_) (fun C x H=>⟨C,H,id⟩) @K.go⟩;refine⟨?_,j.wr,j.low⟩;have hF:=j.st.head;rw[A]at hF;have c:=j.st;rw[A]at c;refine c.top ⟨hF.fn,⟨s.trans hF.tmps.size,fun i v y N g=>?_⟩,hF.todo,?_,hF.mode,hF.kind,hF.round⟩ (Blk.le_refl _) rfl rfl
 ·rcases hs i v N with p|⟨rfl,u,p,F⟩;·exact hF.tmps.at_ i v y p g
  ·exact .junk y r (by rw[<-(hF.tmps.at_ i u y p g).bare];exact F)
 ·show DR n.B a'.defers fa.defers;rw[I];exact hF.defers
theorem Zrc (c:E.junk=true) {xs xs':List Value} {f:List Item} (hs:Forget xs xs') (h:ZdB E W0 J U Ch Post sh bs (b.at ⟨xs'.toArray,[]⟩ f) cs l):ZdB E W0 J U Ch Post sh bs (b.at ⟨xs.toArray,[]⟩ f) cs l:=Zrb (a:=⟨xs.toArray,[]⟩) (a':=⟨xs'.toArray,[]⟩) c rfl (by simpa using (ZgJ hs).1) (fun i v g=>by simpa using (ZgJ hs).2 i v (by simpa using g)) h
end
def ZbF{α:Type} (s:Sem α):Prop:=∀P w a w',s.run P w=.ok a w'->w'=w
section
variable {α β:Type}
theorem Zcn(a:α):ZbF (Pure.pure a:Sem α):=fun P w b w' h=>by cases h;rfl
theorem Zit(h:Halt):ZbF (.halt h:Sem α):=fun P w b w' h=>by cases h
theorem Zcc{s:Sem α} {f:α->Sem β} (h:ZbF s)(hf:∀a,ZbF (f a)):ZbF (s>>=f):=fun P w b w' c=>by rw[Sem.run_bind]at c;cases g:s.run P w with|halt x w1=>rw[g]at c;cases c|ok a w1=>rw[g]at c;have:=h P w a w1 g;subst this;exact hf a P w1 b w' c
theorem Zlu:ZbF Go.program:=fun P w b w' h=>by cases h;rfl
theorem Zlv(a:Addr):ZbF (load a):=fun P w b w' h=>by
 unfold load at h;simp only[Sem.run]at h;split at h;·cases h;rfl
 ·split at h;·cases h;rfl
  ·cases h
theorem Zrd(t:TypeId):ZbF (underlying t):=Zcc Zlu fun P=>by split<;>first|exact Zcn _|exact Zit _
theorem Zre(t:TypeId):ZbF (typeInfo t):=Zcc Zlu fun P=>by split<;>first|exact Zcn _|exact Zit _
theorem Zrf(t:TypeId):ZbF (sizeOf t):=Zcc (Zre t) fun _=>Zcn _
theorem Zrg(t:TypeId):ZbF (isAgg t):=Zcc (Zrd t) fun d=>by split<;>exact Zcn _
theorem Zlw(a:Addr):∀(n i:Nat)(c:Array Value),ZbF (loadCellsFrom a i n c)|0,i,c=>Zcn _|n+1,i,c=>by unfold loadCellsFrom;exact Zcc (Zlv _) fun v=>Zlw a n _ _
theorem Zrh(t:TypeId)(a:Addr):ZbF (loadVar t a):=by
 unfold loadVar;refine Zcc (Zrg t) fun b=>?_;split;·exact Zcc (Zrf t) fun n=>Zcc (Zlw a n 0 #[]) fun c=>Zcn _
 ·exact Zlv _
theorem Zri(v:Value):ZbF (asAddr v):=by unfold asAddr;split<;>first|exact Zcn _|exact Zit _|(intro P w b w' h;simp[runtimePanic,Sem.run]at h)
theorem Zlx(fn:Func)(t:Array Value):ZbF (results fn t):=by
 unfold results;simp only[Array.mapM_eq_mapM_toList];have f:∀(c:List ResultVar),ZbF (c.mapM fun|.tmp g=>Pure.pure (t.getD g undef)|.cell a ty=>do loadVar ty (<-asAddr (t.getD a undef))):=by intro c;induction c with|nil=>simp only[ZAJ];exact Zcn _|cons r c ih=>simp only[ZAI];refine Zcc ?_ fun v=>Zcc ih fun h=>Zcn _;cases r with
   |tmp g=>exact Zcn _|cell a ty=>exact Zcc (Zri _) fun x=>Zrh _ _
 refine Zcc (Zcc (f _) fun a=>Zcn _) fun h=>?_;split<;>exact Zcn _
end
section
variable {E:Env} {W0:World} {J:Nat->Option Job} {U:Nat->Prop} {Ch:Option Nat} {Post:Value->World->Prop} {sh:Nat->Prop} {bs:List Frame}
theorem Ziu{B:Blk} {f fa c:Frame} {ca cb:List Frame} {l w:World} {R:Value->World->Prop} (H:fa.kind=.normal)(hR:Rel E sh (c::ca) B f [ZG E.P] l fa cb w)(hf:Ret E.P R f [ZG E.P] l):∃v s N A t d,R v (l.re t d)/\VR E A v s/\cb=c::ca/\stepG E.P true (G fa (c::ca)) w=.go (G (c.finish s) ca) w N/\∀e∈N,EvL (fun _=>False) w.heap.size e:=by have K:=hR.st;cases K with
 |cons _ _ _ _ _ _ hs=>cases hs with|cons _ _ _ _ _ _ h=>cases h
 |last _ _ hF hrd=>
  obtain⟨_,v,t,d,hl,hr⟩:=hf;obtain⟨hm,V,hk,C,I,g⟩:=hl;have hw:WR E ⟨sh,fun _=>False⟩ B (l.re t d) w:=hR.wr.retape rfl rfl rfl fun _ _ x=>x.elim;have Q:=(Zft C hF.tmps).both hw hR.low (by rw[g];exact fun j y F=>absurd F (ZBS.2 y));rw[g]at Q;obtain⟨A,s,w',L,y,F,O,T⟩:=Q;have:=Zlx C fa.tmps E.P w s w' y;subst this;have m:fa.mode=.returning:=by
   rcases hF.mode with⟨x,_⟩|⟨_,x⟩;·rw[hm]at x;cases x
   ·exact x
  have p:fa.defers=[]:=by have:=hF.defers;rw[V]at this;generalize fa.defers=x at this |-;cases this;rfl
  have r:E.P.funcs[fa.fn]?=some C:=by rw[<-hF.fn];exact I
  refine⟨v,s,seen E.P fa.fn L,A,t,d,hr,T,rfl,?_,fun e Z=>Zih O.wr (O.ev e (Zzb Z))⟩;simp[G,stepG,unwind,doReturn,m,p,H,r,y,F,GStep.after]
theorem Zrj{R:Value->World->Prop} {R':Value->Prop} {c:Frame} {ca:List Frame} {f:Frame} {l:World} (C:E.dfr f.fn=false)(hf:Ret E.P R f [ZG E.P] l)(hU:∀x,0<x->¬U x)(hR:∀v t d,R v (l.re t d)->Zbc 8 v=true/\R' v)(y:bs=c::ca)(k:∀{v:Value} {w':World} {m:Array Goroutine} {sl':Option (Nat×Nat)} {N:Trace} {q':Nat->Nat},R' v->Kept1 W0 w'->m[0]?=some (G (c.finish v) ca)->Leavers E.P N m q'->Past (fun _=>False) w'.heap.size N->Fin E.P Post m w' sl' N):StopK E W0 J U Ch Post sh bs f [ZG E.P] l:=by
 refine⟨Qd,fun ch O=>?_,?_⟩;·obtain⟨_,v,t,d,H,_⟩:=hf;rw[H.1]at O;cases O
 rintro n rfl rfl rfl A ⟨t0,d0,H⟩;refine⟨ZqL (fun {w gs sl t q fa cb} s hL hP j L p h=>?_) hU⟩;rw[A,H]at j;have g:=Rel.re' j;have F:fa.kind=.normal:=g.st.head.kind.2.resolve_right fun x=>(by have:=x.1;rw[C]at this;cases this);rw[y]at g;obtain⟨v,v',T,B',t1,Q,V,Z,rfl,g4,g5⟩:=Ziu F g hf;obtain⟨s1,s2⟩:=hR v t1 Q V;obtain rfl:=Zi 8 s1 Z;have K:stepG E.P (0==0) (G fa (c::ca)) w=_:=g4;have r:=runT_crowd_go (P:=E.P) (sl:=sl) (i:=0) s K;have I:0<gs.size:=(Zyy.1 s).1;exact⟨_,_,_,_,r,k s2 ⟨L,p,h.1,h.2.1⟩ (by simp[I]) (Zk1 s hL _ _ T) (hP.own g5)⟩
end
end Go.Twin
namespace Go.Twin
open Go.Conc
variable {P:Program} {Post:Value->World->Prop} {gs:Array Goroutine} {w:World} {sl:Option (Nat×Nat)} {t:Trace}
theorem Zrk{c:Array Goroutine} {w':World} {sl':Option (Nat×Nat)} {g:Trace} {N:Nat} (h:runNT P N (crowd gs w sl) t=(.next (crowd c w' sl'),g))(hf:Fin P Post c w' sl' g):Fin P Post gs w sl t:=by
 obtain⟨M,f,o,w2,s,j,m,p,r⟩:=hf;refine⟨N+M,f,o,w2,s,?_,?_,p,r⟩;·rw[ZBu,runNT_add,h];exact j
 ·rw[runN_add,<-runNT_fst P _ _ t,h];exact m
theorem Zly{fa fb:Frame} {ca cb:List Frame} {q:Nat->Nat} (h0:gs[0]?=some (G fa ca))(hL:Leavers P t gs q)(A:Past (fun _=>False) w.heap.size t)(hst:∀d,∃f,stepG P true (G fa ca) (w.at d)=.go (G fb cb) (w.at d) f/\∀e∈f,EvL (fun _=>False) w.heap.size e)(k:∀{c:Array Goroutine} {sl':Option (Nat×Nat)} {j:Trace} {p:Nat->Nat} (d:Nat),c[0]?=some (G fb cb)->Leavers P j c p->Past (fun _=>False) (w.at d).heap.size j->Fin P Post c (w.at d) sl' j):Fin P Post gs w sl t:=by obtain⟨N,c,F,w',sl',j,p,m,_,v,⟨rfl,d,rfl⟩,x,y⟩:=walk_beside (P:=P) (Shun:=fun _=>False) (B:=w.heap.size) (D:=fun _ _ f=>∀e∈f,EvL (fun _=>False) w.heap.size e) (Stop:=fun g w'=>g=G fb cb/\∃d,w'=w.at d) (fun _ _ _ h=>h) _ 1 gs (G fa ca) w sl t q (ZBF _) h0 hL A (by refine .inr ⟨rfl,fun H C=>?_⟩;obtain⟨d,rfl⟩:=C;obtain⟨f,m,s⟩:=hst d;rw[m,goes_go];refine⟨s,?_⟩;rintro I ⟨r,rfl⟩;exact⟨rfl,r,rfl⟩);exact Zrk m (k d v x y)
section
variable {E:Env} {Post:Value->World->Prop} {W l0:World} {OldB:Blk} {sh:Nat->Prop}
theorem Zrl{R:Value->World->Prop} {u:Value} {c:Frame} {ca:List Frame} {f:Frame} {l:World} (A:E.dfr f.fn=false)(hf:Ret E.P R f [ZG E.P] l)(hR:∀v t d,R v (l.re t d)->v=u)(hu:Zbc 8 u=true)(j:∀x,x<l0.heap.size->l.heap[x]?=l0.heap[x]?)(k:∀{w':World} {h:Array Goroutine} {sl':Option (Nat×Nat)} {C:Trace} {q':Nat->Nat},Kept1 W w'->h[0]?=some (G (c.finish u) ca)->Leavers E.P C h q'->Past (fun _=>False) w'.heap.size C->Fin E.P Post h w' sl' C):StopG E Post W l0 OldB sh (c::ca) f [ZG E.P] l:=by
 refine⟨Qd,fun ch O=>?_,j,?_⟩;·obtain⟨_,v,t,d,hl,_⟩:=hf;rw[hl.1]at O;cases O
 intro B fa cb w gs sl t q Z hL hP g p;have m:fa.kind=.normal:=g.st.head.kind.2.resolve_right fun x=>(by have:=x.1;rw[A]at this;cases this);obtain rfl:cb=c::ca:=by obtain⟨v,v',H,T,Q,F,I,K,V,L,N⟩:=Ziu m g hf;exact V
 refine Zly (fb:=c.finish u) (cb:=ca) Z hL hP (fun d=>?_) fun d r s y=>k ⟨p.kept.size,p.kept.heap,p.kept.os,p.kept.output⟩ r s y;obtain⟨v,v',H,T,Q,F,I,K,_,L,N⟩:=Ziu m (g.at_ d) hf;obtain rfl:=hR v Q F I;obtain rfl:=Zi 8 hu K;exact⟨H,L,N⟩
end
section
variable {S:Env} {X D:Nat->Prop}
theorem Zdb(S:Env)(X:Nat->Prop) {v:Value} (hb:bare v=true):∃u,VR S (idX X) u u/\(VR S (idX X) v v->u=v)/\∀(E:Env),Sub S E->E.junk=true->VR E (idX X) u v:=by
 by_cases c:VR S (idX X) v v;·exact⟨v,c,fun _=>rfl,fun E g f=>g.vr c⟩
 ·exact⟨.tuple #[],undefR,fun h=>absurd h c,fun E g f=>.junk v f hb⟩
theorem ZeL(S:Env)(X:Nat->Prop):∀(v:Value),∃u,VR S (idX X) u u/\(VR S (idX X) v v->u=v)/\∀(E:Env),Sub S E->E.junk=true->VR E (idX X) u v
 |.iface t v=>by obtain⟨u,g,f,K⟩:=ZeL S X v;refine⟨.iface t u,.iface _ _ _ g,fun h=>?_,fun E p m=>.iface _ _ _ (K E p m)⟩;cases h with|iface _ _ _ h4=>rw[f h4]
 |.agg xs=>by
  have A:∀i:_root_.Fin xs.size,∃u,VR S (idX X) u u/\(VR S (idX X) xs[i] xs[i]->u=xs[i])/\∀(E:Env),Sub S E->E.junk=true->VR E (idX X) u xs[i]:=fun i=>ZeL S X xs[i];have x:(Array.ofFn fun i=>(A i).choose).size=xs.size:=Qd
  have j:∀(i:Nat)(u:Value),(Array.ofFn fun i=>(A i).choose)[i]?=some u->∃v,xs[i]?=some v/\VR S (idX X) u u/\(VR S (idX X) v v->u=v)/\∀(E:Env),Sub S E->E.junk=true->VR E (idX X) u v:=by
   intro i u y;rw[Array.getElem?_ofFn]at y;split at y;·rename_i H;cases y;exact⟨xs[i],Zyw H,(A ⟨i,H⟩).choose_spec⟩
   ·cases y
  refine⟨.agg (Array.ofFn fun i=>(A i).choose),.agg _ _ rfl fun i u L g f=>?_,fun h=>?_,fun E p m=>?_⟩;·rw[g]at f;cases f;obtain⟨v,r,C,_⟩:=j i u g;exact C
  ·cases h with|agg _ _ _ h4=>congr 1;refine Array.ext x fun i g f=>?_;obtain⟨v,r,C,F,_⟩:=j i _ (Zyw g);rw[Zyw f]at r;cases r;exact F (h4 i _ _ (Zyw f) (Zyw f))
  ·refine .agg _ _ x fun i u N g f=>?_;obtain⟨v,r,C,F,I⟩:=j i u g;rw[f]at r;cases r;exact I E p m|.bool b=>⟨.bool b,.bool b,fun _=>rfl,fun E p m=>.bool b⟩|.int k n=>⟨.int k n,.int k n,fun _=>rfl,fun E p m=>.int k n⟩|.string s=>⟨.string s,.string s,fun _=>rfl,fun E p m=>.string s⟩|.nilIface=>⟨.nilIface,.nilIface,fun _=>rfl,fun E p m=>.nilIface⟩|.float a b=>Zdb S X rfl|.complex a b c=>Zdb S X rfl|.pointer a=>Zdb S X rfl|.slice a b c=>Zdb S X rfl|.map a=>Zdb S X rfl|.chan a=>Zdb S X rfl|.func a b c=>Zdb S X rfl|.nilFunc=>Zdb S X rfl|.tuple a=>Zdb S X rfl termination_by v=>SizeOf.sizeOf v decreasing_by
 ·simp_wf;omega
 ·have:=Array.sizeOf_getElem xs i.1 i.2;simp_wf;have e:SizeOf.sizeOf xs[i]=SizeOf.sizeOf xs[i.1]:=rfl;omega
noncomputable def clean(S:Env)(X:Nat->Prop)(v:Value):Value:=(ZeL S X v).choose
theorem Zrm(S:Env) (X:Nat->Prop) (v:Value):VR S (idX X) (clean S X v) (clean S X v):=(ZeL S X v).choose_spec.1
theorem Zrn{v:Value} (h:VR S (idX X) v v):clean S X v=v:=(ZeL S X v).choose_spec.2.1 h
theorem Zro{E:Env} (hs:Sub S E) (c:E.junk=true) (v:Value):VR E (idX X) (clean S X v) v:=(ZeL S X v).choose_spec.2.2 E hs c
def ZaT(D:Nat->Prop)(w:World)(b:Nat):Prop:=(∃c T f,w.heap[b]?=some (.cells c T f))/\¬D b
noncomputable def Zlz(S:Env)(X:Nat->Prop)(o:Obj):Obj:=match o with|.cells c T _=>.cells (c.map (clean S X)) T (0,c.size+1)|o=>o
open Classical in noncomputable def Zcd(S:Env)(D:Nat->Prop)(w:World):World:={w with heap:=w.heap.mapIdx fun b o=>if D b then .deferred none else Zlz S (ZaT D w) o}
theorem ZdC{w:World}:(Zcd S D w).heap.size=w.heap.size:=by simp[Zcd]
theorem ZgK{w:World} {b:Nat} (h:¬D b) {c:Array Value} {T:TypeId} {f:Nat×Nat} (g:w.heap[b]?=some (.cells c T f)):(Zcd S D w).heap[b]?=some (.cells (c.map (clean S (ZaT D w))) T (0,(c.map (clean S (ZaT D w))).size+1)):=by simp only[Zcd,ZyA,g];simp[h,Zlz]
theorem ZlA{w:World} {b:Nat} (h:D b)(hb:b<w.heap.size):(Zcd S D w).heap[b]?=some (.deferred none):=by simp only[Zcd,ZyA,Zyw hb];simp[h]
theorem Zrp{w:World} {a:Addr} {v:Value} (h:¬D a.block)(hv:w.cell? a=some v)(j:VR S (idX (ZaT D w)) v v):(Zcd S D w).cell? a=some v:=by cases g:w.heap[a.block]? with|none=>simp[World.cell?,g]at hv|some o=>cases o with
  |cells c T f=>
   simp only[World.cell?,g]at hv;simp only[World.cell?,ZgK h g];split at hv;·cases hv
   ·rename_i m;rw[if_neg m,Zyz,hv,ZB8,Zrn j]|_=>simp[World.cell?,g]at hv
theorem Zrq{E:Env} (hs:Sub S E)(K:E.junk=true)(C:E.sh=true) {w:World} (A:∀g,E.glob g=true->ZaT D w g)(j:∀g,E.dark g=true->D g/\g<w.heap.size)(s:E.P.globals.size<=w.heap.size):WR E ⟨ZaT D w,fun _=>False⟩ (idX (ZaT D w)) (Zcd S D w) w:=by
 have r:∀b,ZaT D w b->b<w.heap.size:=fun b h=>by obtain⟨⟨_,_,_,h⟩,_⟩:=h;exact(Zyy.1 h).1
 refine⟨fun b m Q x y=>x.1.symm.trans y.1,fun b c m x y=>x.1.trans y.1.symm,fun b m x=>?_,fun b m x N=>absurd x.2 N,fun b m x R=>?_,fun _ _ x=>x.elim,fun g p=>⟨rfl,A g p⟩,fun b m x=>by rw[x.1],⟨by rw[ZdC];exact s,s⟩,fun h=>(by rw[C]at h;cases h),fun g p=>⟨ZlA (j g p).1 (j g p).2,fun m x=>x.2.2 (j g p).1⟩⟩;·obtain⟨rfl,v⟩:=x;rw[ZdC];exact⟨r b v,r b v⟩
 ·obtain⟨rfl,v⟩:=x;obtain⟨⟨c,T,f,H⟩,L⟩:=id v;refine⟨_,c,T,f,ZgK L H,H,⟨Qd,fun i u O I F=>?_⟩⟩;rw[Zyz,F,ZB8]at I;cases I;exact Zro hs K O
theorem Zrr(H:S.sh=true) {w:World} (F:∀g,S.glob g=true->ZaT D w g) (m:∀g,S.dark g=true->D g/\g<w.heap.size) (s:S.P.globals.size<=w.heap.size):Self S (ZaT D w) (idX (ZaT D w)) (Zcd S D w):=by
 have p:∀b,ZaT D w b->b<w.heap.size:=fun b h=>by obtain⟨⟨_,_,_,h⟩,_⟩:=h;exact(Zyy.1 h).1
 refine⟨⟨fun b j Q x y=>x.1.symm.trans y.1,fun b c j x y=>x.1.trans y.1.symm,fun b j x=>?_,fun b j x O=>absurd x.2 O,fun b j x K=>?_,fun _ _ _=>rfl,fun g r=>⟨rfl,F g r⟩,fun b j x=>by rw[x.1],⟨by rw[ZdC];exact s,by rw[ZdC];exact s⟩,fun h=>(by rw[H]at h;cases h),fun g r=>⟨ZlA (m g r).1 (m g r).2,fun j x=>x.2.2 (m g r).1⟩⟩,fun b K=>by rw[ZdC];exact p b K,fun b j x=>x.1⟩;·obtain⟨rfl,C⟩:=x;rw[ZdC];exact⟨p b C,p b C⟩
 ·obtain⟨rfl,C⟩:=x;obtain⟨⟨c,T,f,L⟩,N⟩:=id C;refine⟨_,_,T,_,ZgK N L,ZgK N L,⟨rfl,fun i u V I A=>?_⟩⟩;rw[I]at A;cases A;rw[Zyz]at I;obtain⟨v,R,rfl⟩:=ZB7.1 I;exact Zrm S _ v
end
section
variable {E:Env} {Post:Value->World->Prop} {W l0:World} {OldB:Blk} {sh:Nat->Prop} {bs':List Frame}
theorem Zrs(hG:E.Fine)(H:∀b x,OldB b x->sh b∨(b=x/\x<l0.heap.size/\l0.heap[x]?=W.heap[x]?/\E.sh=false/\E.junk=false)) {b:Frame} {a:Act} {k:List Item} {cs:List Frame} {ops:Array Oper} {i:Nat} {rest:List Nat} {o:Oper} {g:FuncId} {l:World} {R:Value->Prop} (Q:cs≠[])(ho:ops[i]?=some o)(hg:o.guard=none)(hrun:∀(a:Act)(w:World),(execOp a.eval o).run E.P w=.ok (.enter g #[]) w)(T:∀(a:Act)(w:World),(execOp a.eval o).events E.P w #[]=#[])(p:∀x,x<l0.heap.size->l.heap[x]?=l0.heap[x]?)(V:∀{w:World},Kept1 W w->ZdA E.P (Frame.enter E.P g #[] .normal) w R)(hR:∀v,R v->ZbA 8 v=true)(kk:∀v n,R v->LG E (StopG E Post W l0 OldB sh bs') (b.at (a.put o.dst v) (.inRegion ops rest::k)) cs (pad l n)):StopG E Post W l0 OldB sh bs' ((b.at a (.inRegion ops (i::rest)::k))) cs l:=by
 refine⟨Q,fun c h=>(by cases h),p,?_⟩;intro B fa ca w gs sl t q h0 N hP f A;have hF:=f.st.head;obtain⟨k',e,hk⟩:=hF.oper rfl rfl rfl;have aA:Region.wanted o (yielded ops (⟨fa.tmps,fa.defers⟩:Act).tmps)=true:=by unfold Region.wanted;rw[hg]
 have r:∀d,∃es,stepG E.P true (G fa ca) (w.at d)=.go (G (Frame.enter E.P g #[] .normal) (fa::ca)) (w.at d) es/\∀e∈es,EvL (fun _=>False) w.heap.size e:=by intro d;have K:=stepG_enter (P:=E.P) (main:=true) (b:=fa) (a:=⟨fa.tmps,fa.defers⟩) (k:=k') (rest:=rest) (cs:=ca) (w:=w.at d) ho aA hF.noEarly (hrun _ _);rw[<-e]at K;rw[listed_nil (T _ _)]at K;exact⟨_,K,fun e he=>by simp at he⟩
 refine Zly (fb:=Frame.enter E.P g #[] .normal) (cb:=fa::ca) h0 N hP r fun {aC aF t1 q1} d I L O=>?_;have F:Kept1 W (w.at d):=⟨A.kept.size,A.kept.heap,A.kept.os,A.kept.output⟩;refine V F I L O fun {v w' aB aE t' q'} hv j s y C=>?_;have Z:=f.st;have aD:=j;refine ZgG hG H (kk v (w'.heap.size-w.heap.size) hv) s y C ⟨?_,Zlh (w:=w) ⟨j.size,j.heap,j.os,j.output⟩ (fun hs=>?_) (fun i h=>h) f.wr,fun b hb=>?_⟩ ⟨F.trans j,A.old⟩;·have m:=hF.finish (VR.closed (G:=E) (B:=B) 8 v (hR v hv));rw[Frame.finish_at,ho]at m;exact Z.top m (Blk.le_refl _) rfl
 ·have:=(f.wr.sh hs).2.1;have:w.heap.size<=w'.heap.size:=j.size;omega
 ·rw[Zcv];have:=f.low b hb;omega
theorem ZlB{B:Blk} {f fa:Frame} {cb:List Frame} {l w:World} {R:Value->World->Prop} (F:fa.kind=.normal)(hi:E.P.inits.idxOf? fa.fn=none)(hR:Rel E sh [] B f [ZG E.P] l fa cb w)(hf:Ret E.P R f [ZG E.P] l):∃v r L y t d,R v (l.re t d)/\VR E y v r/\cb=[]/\stepG E.P true (G fa []) w=.ended (.done r) w L/\∀e∈L,EvL (fun _=>False) w.heap.size e:=by have I:=hR.st;cases I with
 |cons _ _ _ _ _ _ hs=>cases hs with|cons _ _ _ _ _ _ h=>cases h
 |last _ _ hF hrd=>
  obtain⟨_,v,t,d,Z,hr⟩:=hf;obtain⟨hm,T,hk,A,H,c⟩:=Z;have hw:WR E ⟨sh,fun _=>False⟩ B (l.re t d) w:=hR.wr.retape rfl rfl rfl fun _ _ x=>x.elim;have O:=(Zft A hF.tmps).both hw hR.low (by rw[c];exact fun j s C=>absurd C (ZBS.2 s));rw[c]at O;obtain⟨y,r,w',K,s,C,N,Q⟩:=O;have:=Zlx A fa.tmps E.P w r w' s;subst this;have g:fa.mode=.returning:=by
   rcases hF.mode with⟨x,_⟩|⟨_,x⟩;·rw[hm]at x;cases x
   ·exact x
  have m:fa.defers=[]:=by have:=hF.defers;rw[T]at this;generalize fa.defers=x at this |-;cases this;rfl
  have p:E.P.funcs[fa.fn]?=some A:=by rw[<-hF.fn];exact H
  refine⟨v,r,seen E.P fa.fn K,y,t,d,hr,Q,rfl,?_,fun e V=>Zih N.wr (N.ev e (Zzb V))⟩;simp[G,stepG,unwind,doReturn,g,m,F,p,s,C,hi,GStep.after]
theorem Zrt{R:Value->World->Prop} {u:Value} {f:Frame} {l:World} (r:E.dfr f.fn=false)(hi:E.P.inits.idxOf? f.fn=none)(hf:Ret E.P R f [ZG E.P] l)(hR:∀v t d,R v (l.re t d)->v=u)(hu:Zbc 8 u=true)(g:∀x,x<l0.heap.size->l.heap[x]?=l0.heap[x]?)(k:∀w',Kept1 W w'->Post u w'):StopG E Post W l0 OldB sh [] f [ZG E.P] l:=by
 refine⟨Qd,fun ch I=>?_,g,?_⟩;·obtain⟨_,v,t,d,Z,_⟩:=hf;rw[Z.1]at I;cases I
 intro B fa N w gs sl t q Q T V c p;have hF:=c.st.head;have m:fa.kind=.normal:=hF.kind.2.resolve_right fun x=>(by have:=x.1;rw[r]at this;cases this);have j:E.P.inits.idxOf? fa.fn=none:=by rw[<-hF.fn];exact hi
 obtain rfl:N=[]:=by obtain⟨v,v',y,L,K,s,A,C,O,F,H⟩:=ZlB m j c hf;exact O
 refine beside_ends (D:=fun _ _ _=>False) (n:=0) (fun _ _ _ h=>h.elim) Q T V ?_;rintro w₁ ⟨d,rfl⟩;obtain⟨v,v',y,L,K,s,A,C,_,F,H⟩:=ZlB m j (c.at_ d) hf;obtain rfl:=hR v K s A;obtain rfl:=Zi 8 hu C;exact⟨rfl,_,y,F,H,k _ ⟨p.kept.size,p.kept.heap,p.kept.os,p.kept.output⟩⟩
end
section
variable {S E:Env} {D:Nat->Prop} {Post:Value->World->Prop}
theorem Zru(y:E.Fine)(hs:Sub S E)(A:E.junk=true)(r:E.sh=true)(c:E.free=true) {F:Nat} {fn:Func} {body:Code} {args:Array Value} {W:World} (hf:E.P.funcs[F]?=some fn)(hb:fn.body=some body)(hm:Zat body=true)(p:∀g,E.glob g=true->ZaT D W g)(m:∀g,E.dark g=true->D g/\g<W.heap.size)(s:E.P.globals.size<=W.heap.size)(ha:AR S (idX (ZaT D W)) args args)(hL:LG E (StopG E Post W (Zcd S D W) (idX (ZaT D W)) (ZaT D W) []) (Frame.enter E.P F args .normal) [ZG E.P] (Zcd S D W)):Fin E.P Post #[G (Frame.enter E.P F args .normal) []] W none #[]:=by
 refine Zq2 fun {gs sl t q} v j C=>?_;refine ZgG y (fun b x hb=>.inl hb.2) hL v j C (B:=idX (ZaT D W)) ⟨?_,Zrq hs A r p m s,fun b hb=>?_⟩ ⟨Kept1.refl W,fun b x hb _=>hb⟩
 ·have e:(Frame.enter E.P F args .normal).tmps=args++Array.replicate (fn.ntmps-args.size) undef:=by simp[Frame.enter,hf]
  refine .last _ _ ⟨rfl,?_,?_,?_,.inl ⟨rfl,rfl⟩,⟨rfl,.inl rfl⟩,.inl ⟨rfl,rfl⟩⟩ rfl;·rw[e];exact(hs.ar ha).append (AR.replicate _ undefR)
  ·have e:(Frame.enter E.P F args .normal).todo=[.code body]:=by simp[Frame.enter,hf,hb]
   rw[e];exact .cons _ _ _ _ (.code _ ⟨hm,fun f=>by rw[c]at f;cases f⟩) .nil
  ·exact .nil
 ·obtain⟨⟨_,_,_,h⟩,_⟩:=hb;rw[ZdC];exact(Zyy.1 h).1
end
end Go.Twin
namespace Go.Proofs
open Go.Twin
def Zd8:List Nat:=[27,30,72,86,58,59,60,61,62,77,85,84,107,118,119,132,133,78]
noncomputable def EnvS:Env:={P:=Tryz.prog,good:=fun f=>Zd8.contains f,glob:=fun _=>false,sh:=true,free:=false,junk:=false,nn:=true,dfr:=fun _=>false,dark:=fun _=>false,tab:=.refuse "#"}
theorem ZgL:Strict EnvS:=⟨rfl,rfl,fun _=>rfl,rfl⟩
def ZlC(E:Env)(f:Nat):Bool:=match E.P.funcs[f]? with| some fn => (fn.name != "runtime.NumGoroutine") && (match fn.body with | some c => E.code c | none => false)|none=>true
theorem Ziv(E:Env)(l:List Nat)(x:∀f,E.good f=l.contains f)(h:l.all (ZlC E)=true)(y:E.junk=false):E.Fine:=by
 have r:∀f fn,E.good f=true->E.P.funcs[f]?=some fn->(fn.name== "runtime.NumGoroutine")=false/\∃c,fn.body=some c/\E.code c=true:=by intro f fn p g;rw[x]at p;have j:=ZzJ.1 h f (by simpa using p);unfold ZlC at j;rw[g]at j;simp only[ZyW]at j;refine⟨by simpa using j.1,?_⟩;cases m:fn.body with|none=>rw[m]at j;exact absurd j.2 Qd|some c=>rw[m]at j;exact⟨c,rfl,j.2⟩
 refine⟨fun _ f fn c p g m=>?_,fun f fn c p g m=>?_,fun h=>(by rw[y]at h;cases h),fun f fn p g=>(r f fn p g).1,fun f fn p g m=>?_,fun f fn e p g m=>?_⟩;·obtain⟨_,v,j,s⟩:=r f fn p g;rw[m]at j;cases j;exact s
 ·obtain⟨_,v,j,s⟩:=r f fn p g;rw[m]at j;cases j;exact ZbY c s
 ·obtain⟨_,v,j,s⟩:=r f fn p g;rw[j]at m;cases m
 ·obtain⟨_,v,j,s⟩:=r f fn p g;rw[j]at m;cases m
theorem ZgM:EnvS.Fine:=Ziv EnvS Zd8 (fun _=>rfl) Qb rfl
noncomputable def ZdD:Env:=EnvS.wide EnvS.good false (.refuse "#")
theorem ZlD:ZdD.Fine:=Ziv ZdD Zd8 (fun _=>rfl) Qb rfl
def ZgN:List Nat:=Zd8++[75,76]
noncomputable def ZaJ:Env:={EnvS with good:=fun f=>ZgN.contains f,free:=true,junk:=true,dfr:=fun f=>f==76}
def ZgO(P:Program)(f:Nat):Bool:=match P.funcs[f]? with| some fn => (fn.name != "runtime.NumGoroutine") && (match fn.body with | some c => Zat c | none => false)|none=>true
theorem ZgP(E:Env)(l:List Nat)(v:∀f,E.good f=l.contains f)(h:l.all (ZgO E.P)=true)(x:E.junk=true->E.nn=true)(hf:E.free=true):E.Fine:=by
 have p:∀f fn,E.good f=true->E.P.funcs[f]?=some fn->(fn.name== "runtime.NumGoroutine")=false/\∃c,fn.body=some c/\Zat c=true:=by intro f fn hf g;rw[v]at hf;have j:=ZzJ.1 h f (by simpa using hf);unfold ZgO at j;rw[g]at j;simp only[ZyW]at j;refine⟨by simpa using j.1,?_⟩;cases m:fn.body with
  |none=>rw[m]at j;exact absurd j.2 Qd|some c=>rw[m]at j;exact⟨c,rfl,j.2⟩
 refine⟨fun h=>(by rw[hf]at h;cases h),fun f fn c hf g m=>?_,x,fun f fn hf g=>(p f fn hf g).1,fun f fn hf g m=>?_,fun f fn e hf g m=>?_⟩;·obtain⟨_,s,j,r⟩:=p f fn hf g;rw[m]at j;cases j;exact r
 ·obtain⟨_,s,j,r⟩:=p f fn hf g;rw[j]at m;cases m
 ·obtain⟨_,s,j,r⟩:=p f fn hf g;rw[j]at m;cases m
theorem Zd9:ZaJ.Fine:=ZgP ZaJ ZgN (fun _=>rfl) Qb (fun _=>rfl) rfl
theorem ZgQ:Sub ZdD ZaJ:=⟨rfl,rfl,rfl,rfl,rfl,fun h=>(by cases h),fun f h=>by have c:Zd8.contains f=true:=h;show ZgN.contains f=true;simp only[ZgN,List.contains_eq_mem,ZAU,decide_eq_true_eq]at c |-;exact .inl c,fun h=>h⟩
theorem ZlE:Sub ZdD EnvS:=⟨rfl,rfl,rfl,rfl,rfl,fun h=>h,fun f h=>h,fun h=>h⟩
end Go.Proofs
namespace Go.Proofs
open Tryz
open Go.Twin
def ZeM:List Nat:=[6,50,25,74,56,20,24,21,26,27,28,29,30,45,46,79,47,80,81,51,48,55,78,43,44,57,93,94,95,96,70,97,54,72,73,109,86,52,53,58,59,60,61,62,98,99,100,77,71,108,92,85,105,82,83,84,107,116,101,102,103,104,106,118,119,130,110,111,112,113,114,115,117,121,132,133,139,140,141,142,120,122,123,124,125,126,127,128,129,131,134,145,146,147,148,149,135,136,137,138,150,151,143,144]
noncomputable def ZO:Env:={P:=prog,good:=fun f=>ZeM.contains f,glob:=fun g=>[0,5,1,2,6,7].contains g,sh:=false,free:=false,junk:=false,nn:=true,dfr:=fun _=>false,dark:=fun g=>[3,4].contains g,tab:=.refuse "#"}
theorem Zbq:Strict ZO:=⟨rfl,rfl,fun _=>rfl,rfl⟩
def Zdc:List Nat:=[112,122,134]
noncomputable def ZlF(E:Env)(f:Nat):Bool:=match E.P.funcs[f]? with| some fn => (fn.name != "runtime.NumGoroutine") && (match fn.body with | some c => E.code c | none => Zdc.contains f && (Extern.findNext fn).isNone)|none=>true
theorem Zrv:Extern.find Tryz.f112=some Extern.BytealgCount.count:=Qb
theorem Zrw:Extern.find Tryz.f122=some Extern.BytealgIndex.index:=Qb
theorem Zrx:Extern.find Tryz.f134=some Extern.BytealgIndexByte.indexByte:=Qb
theorem Zry:prog.globals.findIdx? (·.name== "internal/bytealg.MaxLen")=some 0:=Qb
theorem Ziw(E:Env) (r:E.P=prog) (m:E.glob 0=true) {f:Nat} {fn:Func} {e:Array Value->Sem Value} (c:E.P.funcs[f]?=some fn) (hm:Zdc.contains f=true) (j:Extern.find fn=some e) (B:Blk) (xs xs':Array Value) (h:AR E B xs xs'):SR E (QV E) B (e xs) (e xs'):=by
 rw[r]at c;have p:f=112∨f=122∨f=134:=by simpa [Zdc] using hm
 rcases p with rfl|rfl|rfl;·rw[func112]at c;cases c;rw[Zrv]at j;cases j;exact Zq5 h
 ·rw[func122]at c;cases c;rw[Zrw]at j;cases j;refine Zq8 (fun g s=>?_) h;rw[r,Zry]at s;cases s;exact m
 ·rw[func134]at c;cases c;rw[Zrx]at j;cases j;exact Zq6 h
theorem Zrz(E:Env)(A:E.P=prog)(x:E.glob 0=true)(l:List Nat)(F:∀f,E.good f=l.contains f)(h:l.all (ZlF E)=true)(H:E.junk=true->E.nn=true):E.Fine:=by
 have s:∀f fn,E.good f=true->E.P.funcs[f]?=some fn->(fn.name== "runtime.NumGoroutine")=false/\((∃c,fn.body=some c/\E.code c=true)∨(fn.body=none/\Zdc.contains f=true/\Extern.findNext fn=none)):=by intro f fn r g;rw[F]at r;have j:=ZzJ.1 h f (by simpa using r);unfold ZlF at j;rw[g]at j;simp only[ZyW]at j;refine⟨by simpa using j.1,?_⟩;cases m:fn.body with
  |none=>rw[m]at j;have p:=j.2;simp only[ZyW]at p;exact .inr ⟨rfl,p.1,by simpa using p.2⟩|some c=>rw[m]at j;exact .inl ⟨c,rfl,j.2⟩
 refine⟨fun _ f fn c r g m=>?_,fun f fn c r g m=>?_,H,fun f fn r g=>(s f fn r g).1,fun f fn r g m=>?_,fun f fn e r g m C B K y I=>?_⟩
 ·rcases(s f fn r g).2 with⟨v,j,p⟩|⟨j,_⟩;·rw[m]at j;cases j;exact p
  ·rw[m]at j;cases j
 ·rcases(s f fn r g).2 with⟨v,j,p⟩|⟨j,_⟩;·rw[m]at j;cases j;exact ZbY c p
  ·rw[m]at j;cases j
 ·rcases(s f fn r g).2 with⟨v,j,p⟩|⟨_,_,p⟩;·rw[j]at m;cases m
  ·exact p
 ·rcases(s f fn r g).2 with⟨v,j,p⟩|⟨_,p,_⟩;·rw[j]at m;cases m
  ·exact Ziw E A x g p C B K y I
theorem ZX:ZO.Fine:=Zrz ZO rfl Qc ZeM (fun _=>rfl) Qb (fun h=>(by cases h))
theorem ZrA{E:Env} (h:E.Fine)(r:E.P=prog)(j:E.glob 0=true)(hx:∀f fn,E.good f=true->E.P.funcs[f]?=some fn->fn.body.isNone=true->Zdc.contains f=true)(tab:Code):(E.run tab).Fine:=⟨fun g=>(by cases g),h.mark,fun x=>(by cases x),h.name,h.next,fun f fn e g c s v B y p m=>Ziw (E.run tab) r j c (hx f fn g c s) v B y p m⟩
noncomputable def ZlG(f:Nat):Bool:=match prog.funcs[f]? with|some fn=>fn.body.isSome||Zdc.contains f|none=>true
theorem ZrB:ZeM.all ZlG=true:=Qb
theorem ZrC(f:Nat)(fn:Func)(hf:ZeM.contains f=true)(j:prog.funcs[f]?=some fn)(hb:fn.body.isNone=true):Zdc.contains f=true:=by
 have g:=ZzJ.1 ZrB f (by simpa using hf);unfold ZlG at g;rw[j]at g;simp only[Zy5]at g;rcases g with g|g;·cases h:fn.body with
  |none=>rw[h]at g;cases g|some c=>rw[h]at hb;cases hb
 ·exact g
theorem Zbv(tab:Code):(ZO.run tab).Fine:=ZrA ZX rfl Qc (fun f g j c h=>ZrC f g j c h) tab
def ZlH:List Nat:=ZeM++[23,22,49]
noncomputable def ZR:Env:={ZO with good:=fun f=>ZlH.contains f,free:=true}
noncomputable def ZlI(f:Nat):Bool:=match prog.funcs[f]? with| some fn => (fn.name != "runtime.NumGoroutine") && (match fn.body with | some c => Zat c | none => Zdc.contains f && (Extern.findNext fn).isNone)|none=>true
theorem ZrD(E:Env)(C:E.P=prog)(x:E.glob 0=true)(v:E.free=true)(l:List Nat)(H:∀f,E.good f=l.contains f)(h:l.all ZlI=true)(I:E.junk=true->E.nn=true):E.Fine:=by
 have s:∀f fn,E.good f=true->E.P.funcs[f]?=some fn->(fn.name== "runtime.NumGoroutine")=false/\((∃c,fn.body=some c/\Zat c=true)∨(fn.body=none/\Zdc.contains f=true/\Extern.findNext fn=none)):=by intro f fn m g;rw[H]at m;rw[C]at g;have j:=ZzJ.1 h f (by simpa using m);unfold ZlI at j;rw[g]at j;simp only[ZyW]at j;refine⟨by simpa using j.1,?_⟩;cases r:fn.body with|none=>rw[r]at j;have p:=j.2;simp only[ZyW]at p;exact .inr ⟨rfl,p.1,by simpa using p.2⟩|some c=>rw[r]at j;exact .inl ⟨c,rfl,j.2⟩
 refine⟨fun m=>(by rw[v]at m;cases m),fun f fn c m g r=>?_,I,fun f fn m g=>(s f fn m g).1,fun f fn m g r=>?_,fun f fn e m g r F B L y K=>?_⟩
 ·rcases(s f fn m g).2 with⟨A,j,p⟩|⟨j,_⟩;·rw[r]at j;cases j;exact p
  ·rw[r]at j;cases j
 ·rcases(s f fn m g).2 with⟨A,j,p⟩|⟨_,_,p⟩;·rw[j]at r;cases r
  ·exact p
 ·rcases(s f fn m g).2 with⟨A,j,p⟩|⟨_,p,_⟩;·rw[j]at r;cases r
  ·exact Ziw E C x g p F B L y K
theorem Zix:ZR.Fine:=ZrD ZR rfl Qc rfl ZlH (fun _=>rfl) Qb (fun h=>(by cases h))
theorem ZrE(l m:List Nat)(f:Nat)(h:l.contains f=true):(l++m).contains f=true:=by simp only[List.contains_eq_mem,ZAU,decide_eq_true_eq]at h |-;exact .inl h
theorem ZZ:Sub ZO ZR:=⟨rfl,rfl,rfl,rfl,rfl,fun h=>h,fun f h=>ZrE ZeM _ f h,fun h=>h⟩
end Go.Proofs
namespace Go.Proofs
open Go.Twin
def ZfH:List Nat:=[5,6,7,8,9,10,11,12,13,14,15,16,17,18,19,32,64,87,25,35,74,31,63,56,33,20,39,40,26,27,28,29,30,34,36,37,38,41,42,45,46,79,47,81,51,88,48,55,78,43,44,57,93,94,95,96,70,97,54,89,72,73,65,109,86,69,58,59,60,61,62,66,67,68,99,100,71,108,92,85,84,90,91,107,118,119,132,133]
noncomputable def Za5:Env:={P:=Tryz.prog,good:=fun f=>ZfH.contains f,glob:=fun _=>false,sh:=true,free:=false,junk:=false,nn:=true,dfr:=fun _=>false,dark:=fun _=>false,tab:=.refuse "#",z0:=true}
theorem ZlJ:Strict Za5:=⟨rfl,rfl,fun _=>rfl,rfl⟩
theorem Ziy:Za5.Fine:=Ziv Za5 ZfH (fun _=>rfl) Qb rfl
noncomputable def Zcx:Env:={Za5 with free:=true,junk:=true}
theorem ZlK:Zcx.Fine:=ZgP Zcx ZfH (fun _=>rfl) Qb (fun _=>rfl) rfl
theorem ZgR:Sub Za5 Zcx:=⟨rfl,rfl,rfl,rfl,rfl,fun h=>(by cases h),fun _ h=>h,fun h=>h⟩
theorem ZrF:ZfH.all (ZgO Tryz.prog)=true:=Qb
theorem ZrG(tab:Code):(Za5.run tab).Fine:=ZgP (Za5.run tab) ZfH (fun _=>rfl) ZrF (fun h=>by cases h) rfl
end Go.Proofs
