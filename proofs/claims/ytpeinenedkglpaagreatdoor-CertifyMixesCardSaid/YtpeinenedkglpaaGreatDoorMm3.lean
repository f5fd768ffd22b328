import Derived.Test.YtpeinenedkglpaaGreatDoorMm2
import Derived.Conc.TokenWalk
import Derived.Conc.CompanyWords
import Derived.Test.YtpeinenedkglpaaGreatDoorProg
set_option linter.unusedVariables false
set_option linter.unusedSimpArgs false
set_option maxRecDepth 100000
set_option maxHeartbeats 16000000
namespace Go
theorem Zuq:type_of% @Array.getElem?_mapIdx:=@Array.getElem?_mapIdx
theorem ZuT:type_of% @Bool.not_eq_true':=@Bool.not_eq_true'
theorem Zve:type_of% @List.all_eq_true:=@List.all_eq_true
theorem ZvN:type_of% @List.getElem?_eq_none_iff:=@List.getElem?_eq_none_iff
theorem Zwf:type_of% @List.mem_append:=@List.mem_append
theorem Zwi:type_of% @List.mem_cons:=@List.mem_cons
theorem Zwk:type_of% @List.mem_filter:=@List.mem_filter
theorem Zwn:type_of% @List.mem_of_getElem?:=@List.mem_of_getElem?
theorem ZwM:type_of% @Nat.le_add_right:=@Nat.le_add_right
theorem Zw4:type_of% @Nat.pos_of_ne_zero:=@Nat.pos_of_ne_zero
theorem Zxa:type_of% @Nat.zero_le:=@Nat.zero_le
theorem Zxg:type_of% @Option.map_some:=@Option.map_some
theorem Zxi:type_of% @Option.some.injEq:=@Option.some.injEq
end Go
namespace Go.Twin
open Go.Conc (G)
section
variable {E:Env} {sh:Nat->Prop} {bs':List Frame}
structure Own2 (E:Env)(sh:Nat->Prop)(bs':List Frame)(f:Frame)(cs:List Frame)(l:World)(fa:Frame)(ca:List Frame)(B:Blk):Prop where
 st:ST E B [ZD E.P] bs' (f::cs) (fa::ca)
 wr:WR E ⟨sh,fun _=>True⟩ B l l
 low:∀b,sh b->b<l.heap.size
 idn:∀b b',B b b'->b=b'
theorem Own2.re{f fa:Frame} {cs ca:List Frame} {l:World} {B:Blk} (h:Own2 E sh bs' f cs l fa ca B)(t:Nat->Question->Nat)(d:Nat):Own2 E sh bs' f cs (l.re t d) fa ca B:=⟨h.st,h.wr.retape rfl rfl rfl fun _ _ _=>rfl,h.low,h.idn⟩
theorem ZnL(hG:E.Fine)(hJ:E.junk=false) {f fa:Frame} {cs ca:List Frame} {l:World} {B:Blk} (h:Own2 E sh bs' f cs l fa ca B)(hn:¬Zbx [ZD E.P] f cs)(hc:f.mode=.run->Chk E f) {g':Goroutine} {l':World} {es:Array Event} (hs:stepG E.P true (G f cs) l=.go g' l' es):∃f' cs',g'=G f' cs'/\(PK l' [ZD E.P] f' cs'∨∃fa' ca' B' es',B.le B'/\Own2 E sh bs' f' cs' l' fa' ca' B'/\stepG E.P true (G fa ca) l=.go (G fa' ca') l' es'):=by
 have:=ZeG hG h.st h.wr h.low true true hc (ZeH h.st hn) (.inl fun _=>trivial);rw[hs]at this;rcases this with⟨f',cs',rfl,hp⟩|⟨f',cs',fa',ca',w',es',B',new,rfl,h2,h3,h4,h5⟩;·exact⟨f',cs',rfl,.inl hp⟩
 ·refine⟨f',cs',rfl,.inr ?_⟩;have hid:∀b b',B' b b'->b=b':=by
   intro b b' hb;rcases h3.al b b' hb with x|⟨x1,x2,x3⟩;·exact h.idn _ _ x
   ·omega
  have hheap:w'.heap=l'.heap:=by
   have hsz:w'.heap.size=l'.heap.size:=by have:=h3.size.2.2;omega
   apply Zug;intro b;by_cases hb:∃b',B' b b'/\¬sh b;·obtain⟨b',hb,hs⟩:=hb;obtain rfl:=hid _ _ hb;obtain⟨o,o',h6,h7,h8⟩:=h3.wr.obj _ _ hb hs;rw[h6,h7,h8.eq hJ hid]
   ·have hb:∀b',B' b b'->sh b:=fun b' x=>Classical.byContradiction fun hs=>hb ⟨b',x,hs⟩;by_cases hlt:b<l.heap.size
    ·rw[h3.lkeep b hlt fun b' x=>hb b' (h3.le _ _ x)];exact h3.keep b hlt fun c x=>by have:=h.idn _ _ x;subst this;exact hb _ (h3.le _ _ x)
    ·by_cases hlt':b<l'.heap.size;·obtain⟨b',x⟩:=h3.cov b (by omega) hlt';exact absurd (h.low b (hb b' x)) hlt
     ·rw[Zun (by omega),Zun (by omega)]
  have hw':w'=l':=by obtain⟨s1,s2,s3,s4⟩:=h3.same;obtain⟨r1,r2,r3,r4⟩:=h3.lone;have hd:=h3.draws;obtain⟨wh,wt,wd,wo,wx⟩:=w';obtain⟨lh,lt,ld,lo,lx⟩:=l';simp only at*;subst hheap s1 s2 s3;rw[r1,r2,r3];congr 1;omega
  subst hw';exact⟨fa',ca',B',es',h3.le,⟨h4,h3.wr.retape rfl rfl rfl fun _ _ _=>rfl,fun b hb=>ZwS (h.low b hb) h3.size.2.1,hid⟩,h2⟩
theorem FR.chk_other{B:Blk} {f fa:Frame} (h:FR E B f fa)(hc:Chk E f):Chk E fa:=by have hk:=h.todo;unfold Chk at hc |-;generalize f.todo=x at hk hc;generalize fa.todo=x' at hk |-;cases hk with|nil=>exact hc|cons y y' k k' hy hs=>cases hy with|mark=>exact absurd rfl hc|inRegion ops td ho=>cases td<;>exact hc|code c hx=>cases c<;>exact hc|_=>exact hc
theorem FR.mode_run{B:Blk} {f fa:Frame} (h:FR E B f fa)(hm:fa.mode=.run):f.mode=.run:=by
 rcases h.mode with⟨h1,h2⟩|⟨h1,h2⟩;·exact h1
 ·rw[h2]at hm;cases hm
variable {Stop Stop':Frame->List Frame->World->Prop}
theorem Zg2(hG:E.Fine)(hJ:E.junk=false)(hS:Halts Stop) {f:Frame} {cs:List Frame} {l:World} (hL:LG E Stop f cs l):∀{B:Blk} {fa:Frame} {ca:List Frame},Own2 E sh bs' f cs l fa ca B->(∀{B₁:Blk} {f₁:Frame} {cs₁:List Frame} {l₁:World} {fa₁:Frame} {ca₁:List Frame},Stop f₁ cs₁ l₁->B.le B₁->Own2 E sh bs' f₁ cs₁ l₁ fa₁ ca₁ B₁->LG E Stop' fa₁ ca₁ l₁)->LG E Stop' fa ca l:=by induction hL with
 |stop f cs l h=>intro B fa ca hO hK;exact hK h (Blk.le_refl _) hO|step f cs l hc hg hs ih=>
  intro B fa ca hO hK;have ho:¬Zbx [ZD E.P] f cs:=by
   intro ho;obtain⟨f',cs',l',es,hst⟩:=hg l.tape l.drawn;rcases Zg0 (l:=l.re l.tape l.drawn) hO.st.head.kind.1 ho with⟨o,x,es,h1⟩|⟨f2,cs2,l2,es2,h1,h2⟩;·rw[h1]at hst;cases hst
   ·exact ZfF hS (hs _ _ _ _ _ _ h1) h2
  have key:∀t d,∃f' cs' l' es fa' ca' B' es',stepG E.P true (G f cs) (l.re t d)=.go (G f' cs') l' es/\B.le B'/\Own2 E sh bs' f' cs' l' fa' ca' B'/\stepG E.P true (G fa ca) (l.re t d)=.go (G fa' ca') l' es':=by
   intro t d;obtain⟨f',cs',l',es,hst⟩:=hg t d;obtain⟨f2,cs2,e,hp|⟨fa',ca',B',es',h1,h2,h3⟩⟩:=ZnL hG hJ (hO.re t d) ho hc hst;·exfalso;simp only[G,Goroutine.mk.injEq,and_true]at e;obtain⟨rfl,rfl⟩:=e;exact ZfF hS (hs _ _ _ _ _ _ hst) (.inl hp)
   ·simp only[G,Goroutine.mk.injEq,and_true]at e;obtain⟨rfl,rfl⟩:=e;exact⟨_,_,_,_,_,_,_,_,hst,h1,h2,h3⟩
  refine .step fa ca l (fun hm=>hO.st.head.chk_other (hc (hO.st.head.mode_run hm))) (fun t d=>?_) fun t d g cs1 l1 es1 hst=>?_;·obtain⟨_,_,l',_,fa',ca',_,es',_,_,_,h⟩:=key t d;exact⟨_,_,_,_,h⟩
  ·obtain⟨f',cs',l',es,fa',ca',B',es',h1,h2,h3,h4⟩:=key t d;rw[h4]at hst;simp only[GStep.go.injEq,G,Goroutine.mk.injEq,and_true]at hst;obtain⟨⟨rfl,rfl⟩,rfl,_⟩:=hst;exact ih _ _ _ _ _ _ h1 h3 fun h5 h6 h7=>hK h5 (Blk.le_trans h2 h6) h7
theorem Zjb{P:Program} {fr c:Frame} {cs:List Frame} {w:World} {v:Value} (h:fr.leaving P w (.returned v)):∃es,stepG P true (G fr (c::cs)) w=.go (G (c.finish v) cs) w es:=by
 obtain⟨hm,hd,hk,fn,hf,hr⟩:=h;have hr2:((results fn fr.tmps).runT P w #[]).1=.ok v w:=by rw[Sem.runT_eq];exact hr
 have:(stepG P true (G fr (c::cs)) w).bare=.go (G (c.finish v) cs) w:=by simp[G,stepG,unwind,doReturn,hm,hd,hk,hf,hr]
 generalize stepG P true (G fr (c::cs)) w=s at this |-;cases s<;>simp at this;obtain⟨rfl,rfl⟩:=this;exact⟨_,rfl⟩
end
def Env.wide(E:Env)(good:FuncId->Bool)(junk:Bool)(tab:Code):Env:={E with good:=good,free:=true,junk:=junk,tab:=tab}
theorem ZnM{E:Env} {good:FuncId->Bool} {junk:Bool} {tab:Code} (h:∀f,E.good f=true->good f=true)(hj:E.junk=true->junk=true):Sub E (E.wide good junk tab):=⟨rfl,rfl,rfl,rfl,rfl,hj,h,fun h=>h⟩
section
variable {E:Env} {sh:Nat->Prop}
theorem ZnN(hJ:E.junk=false) {S:Side} {B B':Blk} {l w l' w':World} {new:Array Event} (h:Ran E S B l w B' l' w' new)(hh:w.heap=l.heap)(low:∀b,S b->b<l.heap.size)(idn:∀b b',B b b'->b=b'):w'.heap=l'.heap/\∀b b',B' b b'->b=b':=by
 have hid:∀b b',B' b b'->b=b':=by
  intro b b' hb;rcases h.al b b' hb with x|⟨x1,x2,x3⟩;·exact idn _ _ x
  ·rw[hh]at x3;omega
 refine⟨?_,hid⟩;have hsz:w'.heap.size=l'.heap.size:=by have:=h.size.2.2;rw[hh]at this;omega
 apply Zug;intro b;by_cases hb:∃b',B' b b'/\¬S b;·obtain⟨b',hb,hs⟩:=hb;obtain rfl:=hid _ _ hb;obtain⟨o,o',h6,h7,h8⟩:=h.wr.obj _ _ hb hs;rw[h6,h7,h8.eq hJ hid]
 ·have hb:∀b',B' b b'->S b:=fun b' x=>Classical.byContradiction fun hs=>hb ⟨b',x,hs⟩;by_cases hlt:b<l.heap.size
  ·rw[h.lkeep b hlt fun b' x=>hb b' (h.le _ _ x),<-hh];exact h.keep b (by rw[hh];exact hlt) fun c x=>by have:=idn _ _ x;subst this;exact hb _ (h.le _ _ x)
  ·by_cases hlt':b<l'.heap.size;·obtain⟨b',x⟩:=h.cov b (by omega) hlt';exact absurd (low b (hb b' x)) hlt
   ·rw[Zun (by omega),Zun (by omega)]
theorem SR.retape(hJ:E.junk=false) {B:Blk} {s:Sem Value} {l:World} {v:Value} {t:Nat->Question->Nat} {d:Nat} (h:SR E (QV E) B s s)(hw:WR E ⟨sh,fun _=>True⟩ B l l)(low:∀b,sh b->b<l.heap.size)(idn:∀b b',B b b'->b=b')(hr:s.run E.P (l.re t d)=.ok v (l.re t d))(t':Nat->Question->Nat)(d':Nat):s.run E.P (l.re t' d')=.ok v (l.re t' d')/\∃B',B.le B'/\(∀b b',B' b b'->b=b')/\WR E ⟨sh,fun _=>True⟩ B' l l/\VR E B' v v:=by
 have hw':WR E ⟨sh,fun _=>False⟩ B (l.re t d) (l.re t' d'):=hw.retape rfl rfl rfl fun _ _ x=>x.elim;have hb:=h.both hw' low (by rw[hr];exact fun j h1 h2=>absurd h2 (Zw2.2 h1));rw[hr]at hb;obtain⟨B',v',w',new,h1,h2,h3,h4⟩:=hb;obtain⟨h5,h6⟩:=ZnN hJ h3 rfl low idn;have e:=VR.eq_of hJ h6 h4;subst e;have hw2:w'=l.re t' d':=by obtain⟨s1,s2,s3,s4⟩:=h3.same;have hd:=h3.draws;obtain⟨wh,wt,wd,wo,wx⟩:=w';simp only[World.re]at*;subst h5 s1 s2 s3;congr 1;omega
 rw[hw2]at h1 h3;exact⟨h1,B',h3.le,h6,h3.wr.retape rfl rfl rfl fun _ _ _=>rfl,h4⟩
def Ret(P:Program) (R:Value->World->Prop) (f:Frame) (cs:List Frame) (l:World):Prop:=cs=[ZD P]/\∃v t d,f.leaving P (l.re t d) (.returned v)/\R v (l.re t d)
theorem Zd1(P:Program)(R:Value->World->Prop):Halts (Ret P R):=⟨fun f cs l h=>by obtain⟨rfl,v,t,d,h1,h2⟩:=h;exact⟨by simp,fun c hc=>by rw[h1.1]at hc;cases hc⟩,fun f cs l t d h=>by obtain⟨h0,v,t',d',h1,h2⟩:=h;exact⟨h0,v,t',d',h1,h2⟩⟩
theorem ZnO(hG:E.Fine)(hF:Strict E) {B:Blk} {g:FuncId} {args:Array Value} {l:World} {R:Value->World->Prop} (hg:E.good g=true)(hw:WR E ⟨sh,fun _=>True⟩ B l l)(low:∀b,sh b->b<l.heap.size)(idn:∀b b',B b b'->b=b')(ha:AR E B args args)(hc:∀t d,Calls E.P g args (l.re t d) fun e w=>∃v,e=.returned v/\R v w):LG E (Ret E.P R) (Frame.enter E.P g args .normal) [ZD E.P] l/\Own E sh [ZD E.P] (Frame.enter E.P g args .normal) [ZD E.P] l B:=by have hO:Own E sh [ZD E.P] (Frame.enter E.P g args .normal) [ZD E.P] l B:=⟨.last _ _ (ZdZ hG hg ha) rfl,hw,low,idn⟩;refine⟨ZeL (s:=⟨Frame.enter E.P g args .normal,[ZD E.P],l⟩) hG hF (Zd1 E.P R) ⟨⟨B,hO⟩,fun t d=>?_⟩,hO⟩;obtain⟨e,w',fr,⟨v,rfl,hR⟩,⟨n,hn⟩,hfn,hl⟩:=hc t d [ZD E.P];exact⟨n,fr,[ZD E.P],w',hn,rfl,v,w'.tape,w'.drawn,hl,hR⟩
end
section
variable {E:Env} {sh:Nat->Prop} {good:FuncId->Bool} {tab:Code} {Stop':Frame->List Frame->World->Prop}
theorem Zjc(hG:E.Fine)(hF:Strict E)(hG1:(E.wide good false tab).Fine)(hsub:∀f,E.good f=true->good f=true) {B:Blk} {g:FuncId} {args:Array Value} {l:World} {R:Value->World->Prop} (hg:E.good g=true)(hw:WR E ⟨sh,fun _=>True⟩ B l l)(low:∀b,sh b->b<l.heap.size)(idn:∀b b',B b b'->b=b')(ha:AR E B args args)(hR:∀v w t d,R v w->R v (w.re t d))(hc:∀t d,Calls E.P g args (l.re t d) fun e w=>∃v,e=.returned v/\R v w)(c:Frame)(bs:List Frame)(k:∀v l' B',R v l'->B.le B'->WR (E.wide good false tab) ⟨sh,fun _=>True⟩ B' l' l'->(∀b,sh b->b<l'.heap.size)->(∀b b',B' b b'->b=b')->VR (E.wide good false tab) B' v v->LG (E.wide good false tab) Stop' (c.finish v) bs l'):LG (E.wide good false tab) Stop' (Frame.enter E.P g args .normal) (c::bs) l:=by
 have sub:Sub E (E.wide good false tab):=ZnM hsub fun h=>by rw[hF.junk]at h;cases h
 obtain⟨hL,hO⟩:=ZnO (R:=R) hG hF hg hw low idn ha hc;have hL1:=hL.sub sub;have hO2:Own2 (E.wide good false tab) sh (c::bs) (Frame.enter E.P g args .normal) [ZD E.P] l (Frame.enter E.P g args .normal) (c::bs) B:=⟨.last _ _ (ZdZ (E:=E.wide good false tab) hG1 (hsub g hg) (sub.ar ha)) rfl,sub.wr hw,low,idn⟩;refine Zg2 (bs':=c::bs) hG1 rfl (Zd1 E.P R) hL1 hO2 ?_;rintro B₁ f₁ cs₁ l₁ fa₁ ca₁ ⟨rfl,v,t,d,hl,hr⟩ hle hO3;have hst:=hO3.st;cases hst with
 |cons f f' cs cs' hf _ hs=>cases hs with|cons _ _ _ _ _ _ h=>cases h
 |last _ _ hf hrd=>
  obtain⟨hm,hd,hk,fn,hfn,hrun⟩:=hl;have et:f₁.tmps=fa₁.tmps:=hf.tmps.eq (show (E.wide good false tab).junk=false from rfl) hO3.idn;have hA:=hf.tmps;rw[<-et]at hA;have hres:=SR.retape (E:=E.wide good false tab) rfl (ZeF fn hA) hO3.wr hO3.low hO3.idn (t:=t) (d:=d) (v:=v) hrun;have hl2:∀t' d',fa₁.leaving E.P (l₁.re t' d') (.returned v):=by
   intro t' d';refine⟨?_,?_,(by
    rcases hf.kind.2 with h|⟨h,_⟩;·exact h
    ·have h2:E.dfr f₁.fn=true:=h;rw[hF.dfr]at h2;cases h2),fn,hf.fn▸hfn,?_⟩
   ·rcases hf.mode with⟨h1,h2⟩|⟨h1,h2⟩;·rw[hm]at h1;cases h1
    ·exact h2
   ·have:=hf.defers;rw[hd]at this;generalize fa₁.defers=x at this |-;cases this;rfl
   ·have h:=(hres t' d').1;rw[<-et];exact h
  have hgo:∀t' d',∃es,stepG E.P true (G fa₁ (c::bs)) (l₁.re t' d')=.go (G (c.finish v) bs) (l₁.re t' d') es:=fun t' d'=>Zjb (hl2 t' d');refine .step _ _ _ (fun hmr=>?_) (fun t' d'=>?_) fun t' d' g1 cs1 l1 es1 hst=>?_;·exfalso;have:=(hl2 t d).1;rw[hmr]at this;cases this
  ·obtain⟨es,h⟩:=hgo t' d';exact⟨_,_,_,_,h⟩
  ·obtain⟨es,h⟩:=hgo t' d';have h':stepG (E.wide good false tab).P true (G fa₁ (c::bs)) (l₁.re t' d')=.go (G (c.finish v) bs) (l₁.re t' d') es:=h;rw[h']at hst;simp only[GStep.go.injEq,G,Goroutine.mk.injEq,and_true]at hst;obtain⟨⟨rfl,rfl⟩,rfl,_⟩:=hst;obtain⟨B',h1,h2,h3,h4⟩:=(hres t' d').2;refine k v _ B' ?_ (Blk.le_trans hle h1) (h3.retape rfl rfl rfl fun _ _ _=>rfl) hO3.low h2 h4;have:=hR _ _ t' d' hr;exact this
end
end Go.Twin
namespace Go.Twin
open Go.Conc
open Go.ConcN (upd upd_ne upd_same)
variable {a:Touch} {S:Side} {B:Blk} {e:Event}
structure Node where
 sh:Nat->Prop
 bs:List Frame
 B:Blk
 f:Frame
 cs:List Frame
 l:World
 stop:Frame->List Frame->World->Prop
def AtB(a:Touch)(x:Nat):Prop:=(∃ad:Addr,a.loc=.cell ad/\ad.block=x)∨a.loc=.obj x
def ZeM(n:Node)(a:Touch):Prop:=∀b x,n.B b x->AtB a x->n.sh b/\a.write=false
theorem Zjd{x B:Nat} {m:MemAct} (hm:m.touch?=some a)(hl:m.low B)(h:AtB a x):x<B:=by cases m with
 |access e=>
  obtain⟨loc,wr,sy⟩:=e;simp only[MemAct.touch?,Zxi]at hm;subst hm;rcases h with⟨ad,h1,rfl⟩|h1;·dsimp only at h1;subst h1;exact hl
  ·dsimp only at h1;subst h1;exact hl|mark k=>cases k<;>simp only[MemAct.touch?,Zxi,reduceCtorEq]at hm<;>subst hm;all_goals
   rcases h with⟨ad,h1,rfl⟩|h1;·cases h1;exact hl
   ·cases h1|_=>simp[MemAct.touch?]at hm
theorem ZnP(h:Zbu S B e)(ha:(MemAct.ofEvent e).touch?=some a):∃b x,B b x/\(∀y,AtB a y->y=x)/\AtB a x/\(a.write=true->¬S b):=by obtain⟨loc,wr,sy⟩:=e;cases loc with
 |cell ad=>obtain⟨h1,b,h2,h3⟩:=h;dsimp only at h1;subst h1;cases wr<;>simp only[MemAct.ofEvent,MemAct.touch?,Zxi]at ha<;>subst ha;all_goals
   refine⟨b,ad.block,h2,?_,.inl ⟨ad,rfl,rfl⟩,h3⟩;rintro y (⟨ad',h4,rfl⟩|h4);·cases h4;rfl
   ·cases h4|obj r=>obtain⟨h1,b,h2,h3⟩:=h;dsimp only at h1;subst h1;cases wr<;>simp only[MemAct.ofEvent,MemAct.touch?,Zxi]at ha<;>subst ha;all_goals
   refine⟨b,r,h2,?_,.inr rfl,fun _=>h3⟩;rintro y (⟨ad',h4,rfl⟩|h4);·cases h4
   ·cases h4;rfl|mark m=>cases m<;>first|exact absurd h id|(simp[MemAct.ofEvent,MemAct.touch?]at ha)
 |output=>exact h.elim|goroutines=>exact h.elim
theorem ZnQ{bnd:Nat} (hd:∀b x,B b x->x<bnd)(h:Zbu S B e):(MemAct.ofEvent e).low bnd:=by obtain⟨loc,wr,sy⟩:=e;cases loc with
 |cell ad=>obtain⟨h1,b,h2,h3⟩:=h;dsimp only at h1;subst h1;cases wr<;>exact hd _ _ h2|obj r=>obtain⟨h1,b,h2,h3⟩:=h;dsimp only at h1;subst h1;cases wr<;>exact hd _ _ h2|mark m=>cases m<;>first|exact absurd h id|trivial
 |output=>exact h.elim|goroutines=>exact h.elim
theorem ZnR(h:Zbu S B e):e.loc≠.mark .disable/\e.loc≠.mark .enable:=by obtain⟨loc,wr,sy⟩:=e;constructor<;>rintro rfl<;>exact h
structure Tr (M:Nat->Option Node)(S:Nat->Option Nat)(bnd:Nat)(t:Trace):Prop where
 clean:∀said,¬Race said t
 seen:∀op∈t,op.act.low bnd
 known:∀i a,touchAt t i=some a->a.loc.isMemory=true->∀j n,M j=some n->Knows t j i∨ZeM n a
 hand:∀i a,touchAt t i=some a->a.loc.isMemory=true->Knows t 0 i∨(∃k n,M k=some n/\Knows t k i)∨∃k p,S k=some p/\Before t i p
section
variable {M:Nat->Option Node} {S:Nat->Option Nat} {bnd bnd':Nat} {t u:Trace}
theorem Tr.mono(h:Tr M S bnd t)(hb:bnd<=bnd'):Tr M S bnd' t:=⟨h.clean,fun op hop=>MemAct.low_mono hb (h.seen op hop),h.known,h.hand⟩
theorem Tr.mute(h:Tr M S bnd t) {g:Nat} (hu:∀op∈u,op.g=g)(hn:∀op∈u,op.act.touch?=none)(hl:∀op∈u,op.act.low bnd):Tr M S bnd (t++u):=by
 have old:∀i a,touchAt (t++u) i=some a->touchAt t i=some a:=by
  intro i a ha;obtain⟨x,hx,hxa⟩:=touch_of ha;rcases getElem?_append_cases hx with⟨_,hx'⟩|⟨_,hxu⟩;·rw[touchAt_of hx'];exact hxa
  ·rw[hn x hxu]at hxa;cases hxa
 refine⟨fun said=>noRace_append (h.clean said) hu fun i a _ op hop b hb _=>(by rw[hn op hop]at hb;cases hb),seen_app h.seen hl,fun i a ha hm j n hj=>?_,fun i a ha hm=>?_⟩;·exact(h.known i a (old i a ha) hm j n hj).imp (·.app u) id
 ·rcases h.hand i a (old i a ha) hm with x|⟨k,n,h1,h2⟩|⟨k,p,h1,h2⟩;·exact .inl (x.app u)
  ·exact .inr (.inl ⟨k,n,h1,h2.app u⟩)
  ·exact .inr (.inr ⟨k,p,h1,h2.app u⟩)
theorem ZfG{i:Nat} {a:Touch} (h:touchAt t i=some a):∃op,t[i]?=some op/\op.act.touch?=some a/\op∈t:=by obtain⟨x,hx,hxa⟩:=touch_of h;exact⟨x,hx,hxa,Go.Conc.mem_of_getElem? hx⟩
theorem Tr.own{i:Nat} {n n':Node} (h:Tr M S bnd t)(hi:M i=some n)(hle:n.B.le n'.B)(hsh:n'.sh=n.sh)(al:∀b x,n'.B b x->n.B b x∨bnd<=x)(dom':∀b x,n'.B b x->x<bnd')(hb:bnd<=bnd')(apart:∀j m b c x,j≠i->M j=some m->n.B b x->m.B c x->n.sh b/\m.sh c)(domj:∀j m c x,M j=some m->m.B c x->x<bnd) {fn:FuncId} {pos:String} {es:Array Event} (hes:∀e∈es,Zbu ⟨n.sh,fun _=>True⟩ n'.B e):Tr (upd M i (some n')) S bnd' (t++MemOp.ofEvents i fn pos es):=by
 have hu:∀op∈MemOp.ofEvents i fn pos es,op.g=i:=fun op hop=>by obtain⟨e,_,rfl⟩:=Go.Conc.mem_ofEvents hop;rfl
 have ev:∀op∈MemOp.ofEvents i fn pos es,∀b,op.act.touch?=some b->∃c x,n'.B c x/\(∀y,AtB b y->y=x)/\AtB b x/\(b.write=true->¬n.sh c):=by intro op hop b hb;obtain⟨e,he,rfl⟩:=Go.Conc.mem_ofEvents hop;exact ZnP (hes e he) hb
 refine⟨fun said=>noRace_append (h.clean said) hu fun k a ha op hop b hbt hc=>?_,seen_app (h.mono hb).seen fun op hop=>?_,fun k a ha hm j m hj=>?_,fun k a ha hm=>?_⟩
 ·obtain⟨hloc,hmem,hwr,_⟩:=hc;rcases h.known k a ha hmem i n hi with hk|hf;·exact hk
  ·exfalso;obtain⟨c,x,h1,h2,h3,h4⟩:=ev op hop b hbt;have hax:AtB a x:=by unfold AtB at h3 |-;rw[hloc];exact h3
   obtain⟨op0,hop0,ht0,hin⟩:=ZfG ha;have hx:=Zjd ht0 (h.seen op0 hin) hax;rcases al c x h1 with h5|h5
   ·obtain⟨h6,h7⟩:=hf c x h5 hax;rcases hwr with hw|hw;·rw[h7]at hw;cases hw
    ·exact h4 hw h6
   ·omega
 ·obtain⟨e,he,rfl⟩:=Go.Conc.mem_ofEvents hop;exact ZnQ dom' (hes e he)
 ·obtain⟨x,hx,hxa⟩:=touch_of ha;rcases getElem?_append_cases hx with⟨_,hx'⟩|⟨_,hxu⟩
  ·have ha':touchAt t k=some a:=by rw[touchAt_of hx'];exact hxa
   by_cases hji:j=i
   ·subst hji;rw[upd_same]at hj;cases hj;refine(h.known k a ha' hm j n hi).imp (·.app _) fun hf b y hy hay=>?_;rcases al b y hy with h5|h5;·rw[hsh];exact hf b y h5 hay
    ·obtain⟨op0,hop0,ht0,hin⟩:=ZfG ha';have:=Zjd ht0 (h.seen op0 hin) hay;omega
   ·rw[upd_ne _ _ hji]at hj;exact(h.known k a ha' hm j m hj).imp (·.app _) id
  ·by_cases hji:j=i;·subst hji;exact .inl (by have:=knows_own hx;rw[hu x hxu]at this;exact this)
   ·rw[upd_ne _ _ hji]at hj;obtain⟨c,y,h1,h2,h3,h4⟩:=ev x hxu a hxa;refine .inr fun b z hz haz=>?_;obtain rfl:=h2 z haz;rcases al c z h1 with h5|h5;·obtain⟨h6,h7⟩:=apart j m c b z hji hj h5 hz;refine⟨h7,?_⟩;cases hw:a.write with|false=>rfl|true=>exact absurd h6 (h4 hw)
    ·have:=domj j m b z hj hz;omega
 ·obtain⟨x,hx,hxa⟩:=touch_of ha;rcases getElem?_append_cases hx with⟨_,hx'⟩|⟨_,hxu⟩
  ·have ha':touchAt t k=some a:=by rw[touchAt_of hx'];exact hxa
   rcases h.hand k a ha' hm with y|⟨j,m,h1,h2⟩|⟨j,p,h1,h2⟩;·exact .inl (y.app _)
   ·refine .inr (.inl ?_);by_cases hji:j=i;·exact⟨i,n',upd_same _ _ _,hji▸h2.app _⟩
    ·exact⟨j,m,by rw[upd_ne _ _ hji];exact h1,h2.app _⟩
   ·exact .inr (.inr ⟨j,p,h1,h2.app _⟩)
  ·exact .inr (.inl ⟨i,n',upd_same _ _ _,by have:=knows_own hx;rw[hu x hxu]at this;exact this⟩)
end
structure Job where
 ch:Nat
 V:Value->Prop
 bs:List Frame
 stop:Frame->List Frame->World->Prop
inductive Zs|run|park (c:Nat)(zz:Value)
def Zby(z:Zs)(i:Nat)(fa:Frame)(ca:List Frame):Goroutine:=match i,z with|0,.park c zz=>parked (G fa ca) #[rcase c zz] (.recv false)|_,_=>G fa ca
def ZeN(P:Program)(z:Zs)(n:Nat)(i:Nat)(fa:Frame)(ca:List Frame)(g:Goroutine):Prop:=(n=0/\g=Zby z i fa ca)∨(0<i/\n=1/\g.status=.running/\∀w,stepG P false g w=.go (G fa ca) w #[])
structure Co (E:Env)(W0:World)(J:Nat->Option Job)(z:Zs)(M:Nat->Option Node)(S:Nat->Option Nat)(gs:Array Goroutine)(w:World)(t:Trace)(q:Nat->Nat):Prop where
 live:∀i n,M i=some n->∃fa ca g,gs[i]?=some g/\ZeN E.P z (q i) i fa ca g/\Rel E n.sh n.bs n.B n.f n.cs n.l fa ca w
 old:∀i g,0<i->M i=none->gs[i]?=some g->QuitsD E.P (q i) (Deaf t i) g
 deaf:∀i,(M i≠none∨gs.size<=i)->Deaf t i=0
 zero:M 0≠none
 apart:∀i j n m b c x,i≠j->M i=some n->M j=some m->n.B b x->m.B c x->n.sh b/\m.sh c
 tr:Tr M S w.heap.size t
 chanM:∀k j n,J k=some j->M k=some n->w.heap[j.ch]?=some (.chan 1 #[] false 0 0 false)
 chanS:∀k j p,J k=some j->S k=some p->∃v,j.V v/\w.heap[j.ch]?=some (.chan 1 #[v] false 1 0 false)/\(∃op,t[p]?=some op/\op.act=.send j.ch 0)/\t.heard p
 job:∀k,0<k->(M k≠none∨S k≠none)->∃j,J k=some j
 one:∀k k' j j',J k=some j->J k'=some j'->j.ch=j'.ch->k=k'
 fresh:∀k j,J k=some j->W0.heap.size<=j.ch
 excl:∀k p,S k=some p->M k=none/\0<k
 wait:∀c zz,z=.park c zz->∃k j n,0<k/\J k=some j/\j.ch=c/\M k=some n
 stops:∀k j n,0<k->J k=some j->M k=some n->n.stop=j.stop/\n.bs=j.bs
 base:∀i n b x,M i=some n->n.B b x->x<W0.heap.size->n.sh b
 keep:W0.heap.size<=w.heap.size/\∀x,x<W0.heap.size->w.heap[x]?=W0.heap[x]?
 same:w.os=W0.os/\w.output=W0.output/\w.tape=W0.tape
section
variable {E:Env} {W0:World} {J:Nat->Option Job} {z:Zs} {M:Nat->Option Node} {S:Nat->Option Nat} {gs:Array Goroutine} {w w':World} {t:Trace} {q:Nat->Nat} {sl:Option (Nat×Nat)}
theorem Zcu{sh:Nat->Prop} {bs:List Frame} {B:Blk} {f fa:Frame} {cs ca:List Frame} {l:World} (h:Rel E sh bs B f cs l fa ca w) {b x:Nat} (hb:B b x):x<w.heap.size/\∀cap buf cl s r tm,w.heap[x]?≠some (.chan cap buf cl s r tm):=by
 refine⟨(h.wr.dom _ _ hb).2,fun cap buf cl s r tm hc=>?_⟩;by_cases hs:sh b;·obtain⟨c,c',T,f,h1,h2,_⟩:=h.wr.shr b x hb hs;rw[hc]at h2;cases h2
 ·obtain⟨o,o',h1,h2,h3⟩:=h.wr.obj b x hb hs;rw[hc]at h2;cases h2;cases h3
theorem Zcv(hsh:E.sh=true) {sh:Nat->Prop} {bs:List Frame} {B:Blk} {f fa:Frame} {cs ca:List Frame} {l:World} (h:Rel E sh bs B f cs l fa ca w)(hsz:w.heap.size<=w'.heap.size)(hk:∀b x,B b x->w'.heap[x]?=w.heap[x]?):Rel E sh bs B f cs l fa ca w':=by
 obtain⟨h1,h2,h3⟩:=h;refine⟨h1,⟨h2.fn,h2.inj,fun b b' hb=>⟨(h2.dom b b' hb).1,ZwS (h2.dom b b' hb).2 hsz⟩,fun b b' hb hs=>?_,fun b b' hb hs=>?_,fun _ _ x=>x.elim,h2.glob,h2.low,⟨h2.gsz.1,ZwP h2.gsz.2 hsz⟩,fun hs=>?_,h2.dark⟩,h3⟩;·rw[hk b b' hb];exact h2.obj b b' hb hs
 ·rw[hk b b' hb];exact h2.shr b b' hb hs
 ·rw[hsh]at hs;cases hs
theorem Co.at_(h:Co E W0 J z M S gs w t q)(d:Nat):Co E W0 J z M S gs (w.at d) t q:=⟨fun i n hi=>let ⟨fa,ca,g,h1,h3,h2⟩:=h.live i n hi;⟨fa,ca,g,h1,h3,h2.at_ d⟩,h.old,h.deaf,h.zero,h.apart,h.tr,h.chanM,h.chanS,h.job,h.one,h.fresh,h.excl,h.wait,h.stops,h.base,h.keep,h.same⟩
theorem Zg3{i:Nat} (hi:0<i)(fa:Frame)(ca:List Frame):Zby z i fa ca=G fa ca:=by cases i with|zero=>omega|succ i=>rfl
theorem Co.chan_free(h:Co E W0 J z M S gs w t q) {i:Nat} {n:Node} (hi:M i=some n) {c cap s r:Nat} {buf:Array Value} {cl tm:Bool} (hc:w.heap[c]?=some (.chan cap buf cl s r tm))(b:Nat):¬n.B b c:=by intro hb;obtain⟨fa,ca,_,_,_,hr⟩:=h.live i n hi;exact(Zcu hr hb).2 _ _ _ _ _ _ hc
theorem ZnS{P:Program} {g g':Goroutine} {i:Nat} {fa:Frame} {ca:List Frame} (hz:∀c zz,z=.park c zz->∃cap buf s r tm,w'.heap[c]?=some (.chan cap buf false s r tm)):woken P g g' w' (Zby z i fa ca)=Zby z i fa ca:=by
 unfold Zby;split;·rename_i c zz;obtain⟨cap,buf,s,r,tm,hc⟩:=hz c zz rfl;exact woken_recv_open _ _ hc
 ·exact woken_run rfl
theorem ZeN.woken{P:Program} {g g':Goroutine} {n i:Nat} {fa:Frame} {ca:List Frame} {x:Goroutine} (h:ZeN P z n i fa ca x)(hz:∀c zz,z=.park c zz->∃cap buf s r tm,w'.heap[c]?=some (.chan cap buf false s r tm)):Go.Conc.woken P g g' w' x=x:=by
 rcases h with⟨_,rfl⟩|⟨_,_,h,_⟩;·exact ZnS hz
 ·exact woken_run h
theorem ZcQ{P:Program} {g g' x:Goroutine} {i j:Nat} (hij:j≠i):((gs.map (woken P g x w')).setIfInBounds i g')[j]?=(gs[j]?).map (woken P g x w'):=by rw[Zuw (fun e=>hij e.symm),Zup]
theorem Co.go(hsh:E.sh=true)(h:Co E W0 J z M S gs w t q) {i:Nat} {n:Node} (hi:M i=some n)(hz:i=0->z=.run)(hq0:q i=0) {fa fa':Frame} {ca ca':List Frame} (hgi:gs[i]?=some (G fa ca)) {B':Blk} {f':Frame} {cs':List Frame} {l':World} (hR:Rel E n.sh n.bs B' f' cs' l' fa' ca' w')(hW:Went n.sh n.B n.l w B' l' w')(htp:w'.tape=w.tape) {es:Array Event} (hes:∀e∈es,Zbu ⟨n.sh,fun _=>True⟩ B' e)(hR0:Rel E n.sh n.bs n.B n.f n.cs n.l fa ca w):Co E W0 J z (upd M i (some {n with B:=B',f:=f',cs:=cs',l:=l'})) S ((gs.map (woken E.P (G fa ca) (G fa' ca') w')).setIfInBounds i (G fa' ca')) w' (t++MemOp.ofEvents i fa.fn fa.place es) q:=by
 have hlt:i<gs.size:=(Zuo.1 hgi).1;have hu:∀op∈MemOp.ofEvents i fa.fn fa.place es,op.g=i:=fun op hop=>by obtain⟨e,_,rfl⟩:=Go.Conc.mem_ofEvents hop;rfl
 have hkc:∀x,x<w.heap.size->(∀b,n.B b x->n.sh b)->w'.heap[x]?=w.heap[x]?:=hW.keep;have lt_of:∀{x:Nat} {o:Obj},w.heap[x]?=some o->x<w.heap.size:=fun h=>(Zuo.1 h).1;have hch:∀{c cap s r:Nat} {buf:Array Value} {cl tm:Bool},w.heap[c]?=some (.chan cap buf cl s r tm)->w'.heap[c]?=some (.chan cap buf cl s r tm):=by intro c cap s r buf cl tm hc;rw[hkc c (lt_of hc) fun b hb=>absurd hb (h.chan_free hi hc b),hc]
 have hal:∀b x,B' b x->n.B b x∨w.heap.size<=x:=fun b x hb=>(hW.al b x hb).imp id fun y=>y.2.1;have hsz:((gs.map (woken E.P (G fa ca) (G fa' ca') w')).setIfInBounds i (G fa' ca')).size=gs.size:=by simp
 have hother:∀j m,j≠i->M j=some m->∀b x,m.B b x->w'.heap[x]?=w.heap[x]?:=by intro j m hji hj b x hb;obtain⟨fj,cj,_,_,_,hrj⟩:=h.live j m hj;exact hkc x (Zcu hrj hb).1 fun c hc=>(h.apart i j n m c b x (fun e=>hji e.symm) hi hj hc hb).1
 have hM:∀j m,upd M i (some {n with B:=B',f:=f',cs:=cs',l:=l'}) j=some m->(j=i/\m={n with B:=B',f:=f',cs:=cs',l:=l'})∨(j≠i/\M j=some m):=by
  intro j m hj;by_cases hji:j=i;·subst hji;rw[upd_same]at hj;exact .inl ⟨rfl,(Zxh hj).symm⟩
  ·rw[upd_ne _ _ hji]at hj;exact .inr ⟨hji,hj⟩
 have hMn:∀j,upd M i (some {n with B:=B',f:=f',cs:=cs',l:=l'}) j=none->j≠i/\M j=none:=by
  intro j hj;by_cases hji:j=i;·subst hji;rw[upd_same]at hj;cases hj
  ·rw[upd_ne _ _ hji]at hj;exact⟨hji,hj⟩
 have hMe:∀j,upd M i (some {n with B:=B',f:=f',cs:=cs',l:=l'}) j≠none->M j≠none:=by
  intro j hj;by_cases hji:j=i;·subst hji;rw[hi];simp
  ·rwa [upd_ne _ _ hji]at hj
 have hzc:∀c zz,z=.park c zz->∃cap buf s r tm,w'.heap[c]?=some (.chan cap buf false s r tm):=by intro c zz hzz;obtain⟨k,j,m,h1,h2,rfl,h4⟩:=h.wait c zz hzz;exact⟨_,_,_,_,_,hch (h.chanM k j m h2 h4)⟩
 refine⟨fun j m hj=>?_,fun j x hj hm hx=>?_,fun j hj=>?_,?_,fun j k m m' b c x hjk hj hk hb hc=>?_,?_,fun k j m hk hm=>?_,fun k j p hk hp=>?_,fun k hk hm=>?_,h.one,h.fresh,fun k p hp=>?_,fun c zz hzz=>?_,fun k j m hk hj hm=>?_,fun j m b x hj hb hx=>?_,?_,⟨hW.same.1.trans h.same.1,hW.same.2.trans h.same.2.1,htp.trans h.same.2.2⟩⟩
 ·rcases hM j m hj with⟨rfl,rfl⟩|⟨hji,hj⟩
  ·refine⟨fa',ca',G fa' ca',?_,.inl ⟨hq0,?_⟩,hR⟩;·rw[Zux (by simpa using hlt)]
   ·unfold Zby;split;·rename_i c zz;cases hz rfl
    ·rfl
  ·obtain⟨fj,cj,x,h1,h3,h2⟩:=h.live j m hj;refine⟨fj,cj,x,?_,h3,Zcv hsh h2 hW.size.1 (hother j m hji hj)⟩;rw[ZcQ hji,h1,Zxg,h3.woken hzc]
 ·obtain⟨hji,hm⟩:=hMn j hm;rw[ZcQ hji]at hx;obtain⟨y,hy,rfl⟩:=Zxf.1 hx;have hq:=h.old j y hj hm hy;rw[woken_quitsD hq,Deaf_other t (fun e=>hji e.symm) _ hu];exact hq
 ·have h0:=h.deaf j (hj.imp (hMe j) fun x=>by rwa [hsz]at x);by_cases hji:j=i;·subst hji;rw[Deaf_own,h0];exact deafBehind_still (fun e he=>ZnR (hes e he)) _
  ·rw[Deaf_other t (fun e=>hji e.symm) _ hu];exact h0
 ·by_cases h0:0=i;·subst h0;rw[upd_same];simp
  ·rw[upd_ne _ _ h0];exact h.zero
 ·rcases hM j m hj with⟨e1,rfl⟩|⟨hji,hj2⟩<;>rcases hM k m' hk with⟨e2,rfl⟩|⟨hki,hk2⟩;·exact absurd (e1.trans e2.symm) hjk
  ·subst e1;obtain⟨fk,ck,_,_,_,hrk⟩:=h.live k m' hk2;rcases hal b x hb with h5|h5;·exact h.apart j k n m' b c x hjk hi hk2 h5 hc
   ·have:=(Zcu hrk hc).1;omega
  ·subst e2;obtain⟨fj,cj,_,_,_,hrj⟩:=h.live j m hj2;rcases hal c x hc with h5|h5;·exact h.apart j k m n b c x hjk hj2 hi hb h5
   ·have:=(Zcu hrj hb).1;omega
  ·exact h.apart j k m m' b c x hjk hj2 hk2 hb hc
 ·refine h.tr.own (n':={n with B:=B',f:=f',cs:=cs',l:=l'}) hi hW.le rfl hal (fun b x hb=>(Zcu hR hb).1) hW.size.1 (fun j m b c x hji hj hb hc=>h.apart i j n m b c x (fun e=>hji e.symm) hi hj hb hc) (fun j m c x hj hc=>?_) hes;obtain⟨fj,cj,_,_,_,hrj⟩:=h.live j m hj;exact(Zcu hrj hc).1
 ·rcases hM k m hm with⟨rfl,rfl⟩|⟨hki,hm⟩;·exact hch (h.chanM k j n hk hi)
  ·exact hch (h.chanM k j m hk hm)
 ·obtain⟨v,h1,h2,⟨op,h3,h4⟩,h5⟩:=h.chanS k j p hk hp;have hp':=lt_size_of_getElem? h3;exact⟨v,h1,hch h2,⟨op,by rw[getElem?_append_old hp'];exact h3,h4⟩,(heard_old hp').2 h5⟩
 ·exact h.job k hk (hm.imp (hMe k) id)
 ·obtain⟨h1,h2⟩:=h.excl k p hp;refine⟨?_,h2⟩;have:k≠i:=by rintro rfl;rw[hi]at h1;cases h1
  rw[upd_ne _ _ this];exact h1
 ·obtain⟨k,j,m,h1,h2,h3,h4⟩:=h.wait c zz hzz;by_cases hki:k=i;·exact⟨k,j,_,h1,h2,h3,by rw[hki,upd_same]⟩
  ·exact⟨k,j,m,h1,h2,h3,by rw[upd_ne _ _ hki];exact h4⟩
 ·rcases hM k m hm with⟨rfl,rfl⟩|⟨hki,hm⟩;·exact h.stops k j n hk hj hi
  ·exact h.stops k j m hk hj hm
 ·rcases hM j m hj with⟨rfl,rfl⟩|⟨hji,hj⟩
  ·rcases hal b x hb with h5|h5;·exact h.base j n b x hi h5 hx
   ·have:=h.keep.1;omega
  ·exact h.base j m b x hj hb hx
 ·refine⟨ZwP h.keep.1 hW.size.1,fun x hx=>?_⟩;rw[hkc x (ZwS hx h.keep.1) fun b hb=>h.base i n b x hi hb hx];exact h.keep.2 x hx
theorem Co.leaver(h:Co E W0 J z M S gs w t q) {i k:Nat} {g g':Goroutine} (hpos:0<i)(hm:M i=none)(hg:gs[i]?=some g) {es:Array Event} (hmu:∀e∈es,e.mute=true)(hq:QuitsD E.P k (deafBehind (Deaf t i) es) g'):Co E W0 J z M S ((gs.map (woken E.P g g' w)).setIfInBounds i g') w (t++MemOp.ofEvents i g.frame.fn g.frame.place es) (upd q i k):=by
 have hlt:i<gs.size:=(Zuo.1 hg).1;have hu:∀op∈MemOp.ofEvents i g.frame.fn g.frame.place es,op.g=i:=fun op hop=>by obtain⟨e,_,rfl⟩:=Go.Conc.mem_ofEvents hop;rfl
 have hsz:((gs.map (woken E.P g g' w)).setIfInBounds i g').size=gs.size:=by simp
 have hzc:∀c zz,z=.park c zz->∃cap buf s r tm,w.heap[c]?=some (.chan cap buf false s r tm):=by intro c zz hzz;obtain⟨k,j,m,h1,h2,rfl,h4⟩:=h.wait c zz hzz;exact⟨_,_,_,_,_,h.chanM k j m h2 h4⟩
 have hne:∀j,M j≠none->j≠i:=by rintro j hj rfl;exact hj hm
 refine⟨fun j m hj=>?_,fun j x hj hmj hx=>?_,fun j hj=>?_,h.zero,h.apart,?_,h.chanM,fun k j p hk hp=>?_,h.job,h.one,h.fresh,h.excl,h.wait,h.stops,h.base,h.keep,h.same⟩;·obtain⟨fj,cj,x,h1,h3,h2⟩:=h.live j m hj;have hji:=hne j (by rw[hj];simp);refine⟨fj,cj,x,?_,by rw[upd_ne _ _ hji];exact h3,h2⟩;rw[ZcQ hji,h1,Zxg,h3.woken hzc]
 ·by_cases hji:j=i;·subst hji;rw[Zux (by simpa using hlt)]at hx;obtain rfl:=Zxh hx;rw[upd_same,Deaf_own];exact hq
  ·rw[ZcQ hji]at hx;obtain⟨y,hy,rfl⟩:=Zxf.1 hx;have hqj:=h.old j y hj hmj hy;rw[woken_quitsD hqj,upd_ne q k hji,Deaf_other t (fun e=>hji e.symm) _ hu];exact hqj
 ·have hji:j≠i:=by
   rcases hj with hj|hj;·exact hne j hj
   ·rw[hsz]at hj;omega
  rw[Deaf_other t (fun e=>hji e.symm) _ hu];exact h.deaf j (hj.imp id fun x=>by rwa [hsz]at x)
 ·refine h.tr.mute hu (fun op hop=>?_) fun op hop=>?_;·obtain⟨e,he,rfl⟩:=Go.Conc.mem_ofEvents hop;exact touch_mute (hmu e he)
  ·obtain⟨e,he,rfl⟩:=Go.Conc.mem_ofEvents hop;exact low_mute (hmu e he) _
 ·obtain⟨v,h1,h2,⟨op,h3,h4⟩,h5⟩:=h.chanS k j p hk hp;have hp':=lt_size_of_getElem? h3;exact⟨v,h1,h2,⟨op,by rw[getElem?_append_old hp'];exact h3,h4⟩,(heard_old hp').2 h5⟩
theorem Co.born(h:Co E W0 J z M S gs w t q) {i:Nat} {n:Node} {g:Goroutine} {fa:Frame} {ca:List Frame} (hpos:0<i)(hi:M i=some n)(hg:gs[i]?=some g)(hR:Rel E n.sh n.bs n.B n.f n.cs n.l fa ca w):Co E W0 J z M S ((gs.map (woken E.P g (G fa ca) w)).setIfInBounds i (G fa ca)) w t (upd q i 0):=by
 have hlt:i<gs.size:=(Zuo.1 hg).1;have hsz:((gs.map (woken E.P g (G fa ca) w)).setIfInBounds i (G fa ca)).size=gs.size:=by simp
 have hzc:∀c zz,z=.park c zz->∃cap buf s r tm,w.heap[c]?=some (.chan cap buf false s r tm):=by intro c zz hzz;obtain⟨k,j,m,h1,h2,rfl,h4⟩:=h.wait c zz hzz;exact⟨_,_,_,_,_,h.chanM k j m h2 h4⟩
 refine⟨fun j m hj=>?_,fun j x hj hmj hx=>?_,fun j hj=>?_,h.zero,h.apart,h.tr,h.chanM,h.chanS,h.job,h.one,h.fresh,h.excl,h.wait,h.stops,h.base,h.keep,h.same⟩
 ·by_cases hji:j=i;·subst hji;rw[hi]at hj;cases hj;refine⟨fa,ca,G fa ca,by rw[Zux (by simpa using hlt)],.inl ⟨upd_same _ _ _,(Zg3 hpos _ _).symm⟩,hR⟩
  ·obtain⟨fj,cj,x,h1,h3,h2⟩:=h.live j m hj;refine⟨fj,cj,x,?_,by rw[upd_ne _ _ hji];exact h3,h2⟩;rw[ZcQ hji,h1,Zxg,h3.woken hzc]
 ·have hji:j≠i:=by rintro rfl;rw[hi]at hmj;cases hmj
  rw[ZcQ hji]at hx;obtain⟨y,hy,rfl⟩:=Zxf.1 hx;have hqj:=h.old j y hj hmj hy;rw[woken_quitsD hqj,upd_ne q 0 hji];exact hqj
 ·exact h.deaf j (hj.imp id fun x=>by rwa [hsz]at x)
end
section
variable {E:Env} {W0:World} {J:Nat->Option Job} {z:Zs} {M:Nat->Option Node} {S:Nat->Option Nat} {gs:Array Goroutine} {w w':World} {t u:Trace} {q:Nat->Nat} {sl:Option (Nat×Nat)}
theorem Zbk{c cap s r:Nat} {buf:Array Value} {cl tm:Bool} {x:Nat} (hx:x≠c):(w.setChan c cap buf cl s r tm).heap[x]?=w.heap[x]?:=by simp[World.setChan,Zuw (fun e:c=x=>hx e.symm)]
theorem ZnT{c cap s r:Nat} {buf:Array Value} {cl tm:Bool} {o:Obj} (hc:w.heap[c]?=some o):(w.setChan c cap buf cl s r tm).heap[c]?=some (.chan cap buf cl s r tm):=by have:=(Zuo.1 hc).1;simp[World.setChan,this]
theorem Zbl{α:Type} {f:Nat->Option α} {k j:Nat} {n:α} (h:upd f k none j=some n):j≠k/\f j=some n:=by
 by_cases e:j=k;·subst e;rw[upd_same]at h;cases h
 ·rw[upd_ne _ _ e]at h;exact⟨e,h⟩
theorem Co.status(h:Co E W0 J z M S gs w t q) {i:Nat} {g:Goroutine} (hg:gs[i]?=some g):g.status=.running∨g.status=.finished∨(i=0/\∃c zz fa ca,z=.park c zz/\g=parked (G fa ca) #[rcase c zz] (.recv false)):=by cases hm:M i with
 |none=>have hi:0<i:=Zw4 fun e=>h.zero (e▸hm);exact(h.old i g hi hm hg).status.imp id .inl|some n=>
  obtain⟨fa,ca,x,h1,h2,_⟩:=h.live i n hm;rw[hg]at h1;obtain rfl:=Zxh h1;rcases h2 with⟨_,rfl⟩|⟨_,_,h2,_⟩;case inr=>exact .inl h2
  unfold Zby;split;·rename_i c zz _;exact .inr (.inr ⟨rfl,c,zz,fa,ca,rfl,rfl⟩)
  ·exact .inl rfl
theorem Co.offers(h:Co E W0 J z M S gs w t q)(k:Nat) {c:Nat} (hc:∀zz,z≠.park c zz):partners (gs.setIfInBounds k ph) c false=[]:=by
 refine partners_nil fun j g hj=>?_;rcases getElem?_stand gs k j g hj with⟨rfl,rfl⟩|⟨hjk,hj⟩;·rfl
 ·rcases h.status hj with h1|h1|⟨_,c',zz,fa,ca,hz,rfl⟩;·exact offersAt_of_not_blocked (by rw[h1];simp) _ _
  ·exact offersAt_of_not_blocked (by rw[h1];simp) _ _
  ·rw[offersAt_parked_recv,if_neg];rintro rfl;exact hc zz hz
theorem Zdr(g:Nat)(fn:FuncId)(pos:String):MemOp.ofEvents g fn pos #[]=#[]:=by rw[ofEvents_eq];simp
theorem Zje{i g:Nat} {y:MemOp} (h:Knows t g i)(hg:y.g=g)(hu:u[0]?=some y):Before (t++u) i t.size:=.inr (h.hb_new (ZwO _) (by rw[Array.getElem?_append_right (ZwO _)];simpa using hu) hg)
theorem Zds{i:Nat} {y:MemOp} (h:u[i]?=some y):(t++u)[t.size+i]?=some y:=by rw[Array.getElem?_append_right (ZwM _ _)];simpa using h
theorem Zdt(t:Trace)(g:Nat)(u:Trace)(h:∀op∈u,op.act≠.mark .disable/\op.act≠.mark .enable):Deaf (t++u) g=Deaf t g:=by obtain⟨l⟩:=u;rw[Deaf_append];generalize Deaf t g=d;induction l generalizing d with
 |nil=>rfl|cons y l ih=>
  rw[List.foldl_cons];have e:deafStep g d y=d:=by
   obtain⟨h1,h2⟩:=h y (by simp);unfold deafStep;split;·rename_i hy;exact absurd hy h1
   ·rename_i hy;exact absurd hy h2
   ·rfl
  rw[e];exact ih (fun op hop=>h op (by simp at hop |-;exact .inr hop)) d
theorem Co.send(hsh:E.sh=true)(h:Co E W0 J z M S gs w t q) {k m:Nat} {n:Node} {j:Job} (hk0:0<k)(hM:M k=some n)(hj:J k=some j)(hz:∀zz,z≠.park j.ch zz) {v:Value} (hv:j.V v) {g₂:Goroutine} (hq:QuitsD E.P m 0 (Go.Conc.served g₂ undef)) {fn:FuncId} {pos:String}:Co E W0 J z (upd M k none) (upd S k (some t.size)) (gs.setIfInBounds k (Go.Conc.served g₂ undef)) (w.setChan j.ch 1 #[v] false 1 0 false) (t++#[{g:=k,fn,pos,act:=.send j.ch 0},{g:=k,fn,pos,act:=.sendDone j.ch 0}]) (upd q k m):=by
 have hc:=h.chanM k j n hj hM;have hclt:j.ch<w.heap.size:=(Zuo.1 hc).1;have hu:∀op∈(#[{g:=k,fn,pos,act:=.send j.ch 0},{g:=k,fn,pos,act:=.sendDone j.ch 0}]:Trace),op.g=k:=by simp
 have hn:∀op∈(#[{g:=k,fn,pos,act:=.send j.ch 0},{g:=k,fn,pos,act:=.sendDone j.ch 0}]:Trace),op.act.touch?=none:=by simp[MemAct.touch?]
 have hl:∀op∈(#[{g:=k,fn,pos,act:=.send j.ch 0},{g:=k,fn,pos,act:=.sendDone j.ch 0}]:Trace),op.act.low w.heap.size:=by simp[MemAct.low,hclt]
 have hm0:∀op∈(#[{g:=k,fn,pos,act:=.send j.ch 0},{g:=k,fn,pos,act:=.sendDone j.ch 0}]:Trace),op.act≠.mark .disable/\op.act≠.mark .enable:=by simp
 have h0:(#[{g:=k,fn,pos,act:=.send j.ch 0},{g:=k,fn,pos,act:=.sendDone j.ch 0}]:Trace)[0]?=some {g:=k,fn,pos,act:=.send j.ch 0}:=rfl;generalize (#[{g:=k,fn,pos,act:=.send j.ch 0},{g:=k,fn,pos,act:=.sendDone j.ch 0}]:Trace)=u at hu hn hl hm0 h0 |-;obtain⟨fk,ck,gk,hgk,hsk,hrk⟩:=h.live k n hM;have hlt:k<gs.size:=(Zuo.1 hgk).1;have hd:Deaf t k=0:=h.deaf k (.inl (by rw[hM];simp));have himg:∀{i:Nat} {m:Node} {b x:Nat},M i=some m->m.B b x->x≠j.ch:=by intro i m b x hi hb e;exact h.chan_free hi hc b (e▸hb)
 have hfr:=h.fresh k j hj;have hT:=h.tr.mute hu hn hl;have hwsz:(w.setChan j.ch 1 #[v] false 1 0 false).heap.size=w.heap.size:=by simp[World.setChan]
 refine⟨fun i m hi=>?_,fun i x hi hm hx=>?_,fun i hi=>?_,?_,fun a b m m' c d x hab ha hb=>h.apart a b m m' c d x hab (Zbl ha).2 (Zbl hb).2,⟨hT.clean,by rw[hwsz];exact hT.seen,fun i a ha hm x m hx=>hT.known i a ha hm x m (Zbl hx).2,fun i a ha hm=>?_⟩,fun i j' m hi hm=>?_,fun i j' p hi hp=>?_,fun i hi hm=>?_,h.one,h.fresh,fun i p hp=>?_,fun c zz hzz=>?_,fun i j' m hi hj' hm=>h.stops i j' m hi hj' (Zbl hm).2,fun i m b x hm=>h.base i m b x (Zbl hm).2,?_,h.same⟩;·obtain⟨hik,hi⟩:=Zbl hi;obtain⟨fi,ci,x,h1,h3,h2⟩:=h.live i m hi;exact⟨fi,ci,x,by rw[Zuw (fun e=>hik e.symm)];exact h1,by rw[upd_ne _ _ hik];exact h3,Zcv hsh h2 (by rw[hwsz];exact ZwO _) fun b x hb=>Zbk (himg hi hb)⟩
 ·by_cases hik:i=k
  ·subst hik;rw[Zux hlt]at hx;obtain rfl:=Zxh hx;have e:Deaf (t++u) i=0:=by rw[Zdt t i u hm0];exact hd
   rw[upd_same,e];exact hq
  ·rw[Zuw (fun e=>hik e.symm)]at hx;rw[upd_ne _ _ hik]at hm;have:=h.old i x hi hm hx;rw[upd_ne _ _ hik,Deaf_other t (fun e=>hik e.symm) _ hu];exact this
 ·have hik:i≠k:=by
   rintro rfl;rcases hi with hi|hi;·rw[upd_same]at hi;exact hi rfl
   ·simp at hi;omega
  rw[Deaf_other t (fun e=>hik e.symm) _ hu];refine h.deaf i (hi.imp (fun x=>?_) fun x=>by simpa using x);rwa [upd_ne _ _ hik]at x
 ·rw[upd_ne _ _ (by omega)];exact h.zero
 ·obtain⟨op,hop,ht0,_⟩:=ZfG ha;have hold:i<t.size/\touchAt t i=some a:=by
   rcases getElem?_append_cases hop with⟨h1,h2⟩|⟨_,h2⟩;·exact⟨h1,by rw[touchAt_of h2];exact ht0⟩
   ·rw[hn op h2]at ht0;cases ht0
  rcases h.tr.hand i a hold.2 hm with x|⟨i',m,h1,h2⟩|⟨i',p,h1,h2⟩;·exact .inl (x.app u)
  ·by_cases hik:i'=k;·subst hik;exact .inr (.inr ⟨i',t.size,upd_same _ _ _,Zje h2 rfl h0⟩)
   ·exact .inr (.inl ⟨i',m,by rw[upd_ne _ _ hik];exact h1,h2.app u⟩)
  ·refine .inr (.inr ⟨i',p,?_,h2.app u⟩);have:i'≠k:=by rintro rfl;rw[(h.excl i' p h1).1]at hM;cases hM
   rw[upd_ne _ _ this];exact h1
 ·obtain⟨hik,hm⟩:=Zbl hm;rw[Zbk];·exact h.chanM i j' m hi hm
  ·exact fun e=>hik (h.one i k j' j hi hj e)
 ·by_cases hik:i=k
  ·subst hik;rw[upd_same]at hp;cases hp;rw[hj]at hi;cases hi;refine⟨v,hv,ZnT hc,⟨_,by have:=Zds (t:=t) h0;simpa using this,rfl⟩,?_⟩;refine⟨i,?_,?_⟩;·have:=Zds (t:=t) h0;simp only[ZwK]at this;simp[Trace.g?,this]
   ·rw[deaf_old (ZwO _)];exact hd
  ·rw[upd_ne _ _ hik]at hp;obtain⟨v',h1,h2,⟨op,h3,h4⟩,h5⟩:=h.chanS i j' p hi hp;have hp':=lt_size_of_getElem? h3;exact⟨v',h1,by rw[Zbk fun e=>hik (h.one i k j' j hi hj e)];exact h2,⟨op,by rw[getElem?_append_old hp'];exact h3,h4⟩,(heard_old hp').2 h5⟩
 ·by_cases hik:i=k;·subst hik;exact⟨j,hj⟩
  ·rw[upd_ne _ _ hik,upd_ne _ _ hik]at hm;exact h.job i hi hm
 ·by_cases hik:i=k;·subst hik;exact⟨upd_same _ _ _,hk0⟩
  ·rw[upd_ne _ _ hik]at hp;rw[upd_ne _ _ hik];exact h.excl i p hp
 ·obtain⟨i,j',m,h1,h2,h3,h4⟩:=h.wait c zz hzz;refine⟨i,j',m,h1,h2,h3,?_⟩;have:i≠k:=by rintro rfl;rw[hj]at h2;cases h2;exact hz zz (h3▸hzz)
  rw[upd_ne _ _ this];exact h4
 ·rw[hwsz];exact⟨h.keep.1,fun x hx=>by rw[Zbk (by omega)];exact h.keep.2 x hx⟩
end
section
variable {E:Env} {W0:World} {J:Nat->Option Job} {z:Zs} {M:Nat->Option Node} {S:Nat->Option Nat} {gs:Array Goroutine} {w w':World} {t u:Trace} {q:Nat->Nat} {sl:Option (Nat×Nat)}
theorem Zm:∀(l:List MemOp) {t:Trace} {bnd:Nat},Tr M S bnd t->(∀op∈l,op.act.touch?=none/\op.act.low bnd)->Tr M S bnd (t++l.toArray)
 |[],t,bnd,h,_=>by simpa using h|x::l,t,bnd,h,hl=>by
  have e:t++(x::l).toArray=(t++#[x])++l.toArray:=by simp
  rw[e];exact Zm l (h.mute (g:=x.g) (by simp) (by simp[(hl x (by simp)).1]) (by simp[(hl x (by simp)).2])) fun op hop=>hl op (by simp[hop])
theorem ZfH(hn:∀op∈u,op.act.touch?=none) {i:Nat} {a:Touch} (ha:touchAt (t++u) i=some a):touchAt t i=some a:=by
 obtain⟨op,hop,ht0,_⟩:=ZfG ha;rcases getElem?_append_cases hop with⟨h1,h2⟩|⟨_,h2⟩;·rw[touchAt_of h2];exact ht0
 ·rw[hn op h2]at ht0;cases ht0
theorem Zjf{c p r g:Nat} {x y:MemOp} (hx:t[p]?=some x)(hxa:x.act=.send c 0)(hxh:t.heard p)(hy:t[r]?=some y)(hya:y.act=.recvDone c 0)(hyg:y.g=g)(hyh:t.heard r) {i:Nat} (hi:Before t i p):Knows t g i:=⟨r,y,hy,hyg,.inr (hi.hb (.single (.inr ⟨.handOver (c:=c) (k:=0) (by simp[Trace.act?,hx,hxa]) (by simp[Trace.act?,hy,hya]),hxh,hyh⟩)))⟩
theorem ZeO{g i:Nat} {y:MemOp} (hy:t[i]?=some y)(hg:y.g=g)(hd:t.deaf g i=0):t.heard i:=⟨g,by simp[Trace.g?,hy,hg],hd⟩
theorem Co.meet(hsh:E.sh=true) {k m:Nat} {n n0:Node} {j:Job} {zz:Value} (h:Co E W0 J (.park j.ch zz) M S gs w t q)(hk0:0<k)(hM:M k=some n)(hM0:M 0=some n0)(hj:J k=some j) {v:Value} (hv:Zbh 8 v=true) {fa:Frame} {ca:List Frame} (hfa:gs[0]?=some (parked (G fa ca) #[rcase j.ch zz] (.recv false))) {g₂:Goroutine} (hq:QuitsD E.P m 0 (Go.Conc.served g₂ undef)) {fn fn':FuncId} {pos pos':String}:Co E W0 J .run (upd (upd M k none) 0 (some {n0 with f:=n0.f.finish v})) S ((gs.setIfInBounds 0 (G (fa.finish v) ca)).setIfInBounds k (Go.Conc.served g₂ undef)) (w.setChan j.ch 1 #[] false 1 1 false)
   (t++#[{g:=k,fn,pos,act:=.send j.ch 0},{g:=0,fn:=fn',pos:=pos',act:=.recv j.ch 0 1},{g:=k,fn,pos,act:=.sendDone j.ch 0},{g:=0,fn:=fn',pos:=pos',act:=.recvDone j.ch 0}]) (upd q k m):=by
 have hc:=h.chanM k j n hj hM;have hclt:j.ch<w.heap.size:=(Zuo.1 hc).1;have hk:k≠0:=by omega
 obtain⟨fk,ck,gk,hgk,hsk,hrk⟩:=h.live k n hM;have hlt:k<gs.size:=(Zuo.1 hgk).1;have hlt0:0<gs.size:=by omega
 have hdk:Deaf t k=0:=h.deaf k (.inl (by rw[hM];simp));have hd0:Deaf t 0=0:=h.deaf 0 (.inl (by rw[hM0];simp));have himg:∀{i:Nat} {m:Node} {b x:Nat},M i=some m->m.B b x->x≠j.ch:=by intro i m b x hi hb e;exact h.chan_free hi hc b (e▸hb)
 have hfr:=h.fresh k j hj;have hwsz:(w.setChan j.ch 1 #[] false 1 1 false).heap.size=w.heap.size:=by simp[World.setChan]
 generalize hx0:({g:=k,fn,pos,act:=.send j.ch 0}:MemOp)=x0;generalize hx1:({g:=0,fn:=fn',pos:=pos',act:=.recv j.ch 0 1}:MemOp)=x1;generalize hx2:({g:=k,fn,pos,act:=.sendDone j.ch 0}:MemOp)=x2;generalize hx3:({g:=0,fn:=fn',pos:=pos',act:=.recvDone j.ch 0}:MemOp)=x3;have hT:Tr M S w.heap.size (t++#[x0,x1,x2,x3]):=Zm [x0,x1,x2,x3] h.tr (by simp[<-hx0,<-hx1,<-hx2,<-hx3,MemAct.touch?,MemAct.low,hclt]);have hn:∀op∈(#[x0,x1,x2,x3]:Trace),op.act.touch?=none:=by simp[<-hx0,<-hx1,<-hx2,<-hx3,MemAct.touch?]
 have hm0:∀op∈(#[x0,x1,x2,x3]:Trace),op.act≠.mark .disable/\op.act≠.mark .enable:=by simp[<-hx0,<-hx1,<-hx2,<-hx3]
 have hm3:∀op∈(#[x0,x1,x2]:Trace),op.act≠.mark .disable/\op.act≠.mark .enable:=by simp[<-hx0,<-hx1,<-hx2]
 have g0:(t++#[x0,x1,x2,x3])[t.size]?=some x0:=by have:=Zds (t:=t) (u:=#[x0,x1,x2,x3]) (i:=0) rfl;rwa [ZwK]at this
 have g3:(t++#[x0,x1,x2,x3])[t.size+3]?=some x3:=Zds (t:=t) (u:=#[x0,x1,x2,x3]) (i:=3) rfl;have e3:t++#[x0,x1,x2,x3]=(t++#[x0,x1,x2])++#[x3]:=by simp
 have d3:(t++#[x0,x1,x2,x3]).deaf 0 (t.size+3)=0:=by
  rw[e3,deaf_old (by simp)];have:(t++#[x0,x1,x2]).size=t.size+3:=by simp
  rw[<-this];exact(Zdt t 0 _ hm3).trans hd0
 have d0:(t++#[x0,x1,x2,x3]).deaf k t.size=0:=by rw[deaf_old (ZwO _)];exact hdk
 have hD:∀g,Deaf (t++#[x0,x1,x2,x3]) g=Deaf t g:=fun g=>Zdt t g _ hm0;have hknow:∀i,Before (t++#[x0,x1,x2,x3]) i t.size->Knows (t++#[x0,x1,x2,x3]) 0 i:=fun i hi=>Zjf (c:=j.ch) g0 (by rw[<-hx0]) (ZeO g0 (by rw[<-hx0]) d0) g3 (by rw[<-hx3]) (by rw[<-hx3]) (ZeO g3 (by rw[<-hx3]) d3) hi;have hS:∀i p,S i=some p->i≠k:=by rintro i p hp rfl;rw[(h.excl i p hp).1]at hM;cases hM
 obtain⟨fa',ca',x',hg0,hs0,hr0⟩:=h.live 0 n0 hM0;rw[hfa]at hg0;rcases hs0 with⟨hq00,hs0⟩|⟨h00,_⟩;case inr=>omega
 have he:=(Zxh hg0).trans hs0;have efa:fa=fa'/\ca=ca':=by simp only[Zby,parked,G,Goroutine.mk.injEq,and_true]at he;exact⟨he.1,he.2⟩
 obtain⟨rfl,rfl⟩:=efa;have hMc:∀i m,upd (upd M k none) 0 (some {n0 with f:=n0.f.finish v}) i=some m->(i=0/\m={n0 with f:=n0.f.finish v})∨(i≠0/\i≠k/\M i=some m):=by
  intro i m hi;by_cases hi0:i=0;·subst hi0;rw[upd_same]at hi;exact .inl ⟨rfl,(Zxh hi).symm⟩
  ·rw[upd_ne _ _ hi0]at hi;exact .inr ⟨hi0,(Zbl hi).1,(Zbl hi).2⟩
 have hMB:∀i m,upd (upd M k none) 0 (some {n0 with f:=n0.f.finish v}) i=some m->∃m',M i=some m'/\m'.B=m.B/\m'.sh=m.sh:=by
  intro i m hi;rcases hMc i m hi with⟨rfl,rfl⟩|⟨_,_,hi⟩;·exact⟨n0,hM0,rfl,rfl⟩
  ·exact⟨m,hi,rfl,rfl⟩
 refine⟨fun i m hi=>?_,fun i x hi hm hx=>?_,fun i hi=>?_,by rw[upd_same];simp,fun a b m m' c d x hab ha hb hc hd=>?_,⟨hT.clean,by rw[hwsz];exact hT.seen,fun i a ha hm x m hx=>?_,fun i a ha hm=>?_⟩,fun i j' m hi hm=>?_,fun i j' p hi hp=>?_,fun i hi hm=>?_,h.one,h.fresh,fun i p hp=>?_,(by intro c zz hzz;cases hzz),fun i j' m hi hj' hm=>?_,fun i m b x hm hb hx=>?_,?_,h.same⟩
 ·rcases hMc i m hi with⟨rfl,rfl⟩|⟨hi0,hik,hi⟩
  ·refine⟨fa.finish v,ca,_,?_,.inl ⟨by rw[upd_ne _ _ hk.symm];exact hq00,rfl⟩,?_⟩;·rw[Zuw hk,Zux hlt0];rfl
   ·have h2:Rel E n0.sh n0.bs n0.B n0.f n0.cs n0.l fa ca (w.setChan j.ch 1 #[] false 1 1 false):=Zcv hsh hr0 (by rw[hwsz];exact ZwO _) fun b x hb=>Zbk (himg hM0 hb);exact⟨h2.st.top (h2.st.head.finish (VR.closed 8 v hv)) (Blk.le_refl _) (ZcO _ _),h2.wr,h2.low⟩
  ·obtain⟨fi,ci,x,h1,h3,h2⟩:=h.live i m hi;refine⟨fi,ci,x,?_,?_,Zcv hsh h2 (by rw[hwsz];exact ZwO _) fun b x hb=>Zbk (himg hi hb)⟩;·rw[Zuw (fun e=>hik e.symm),Zuw (fun e=>hi0 e.symm),h1]
   ·rw[upd_ne _ _ hik];unfold ZeN at h3 |-;rw[Zg3 (Zw4 hi0)]at h3 |-;exact h3
 ·have hi0:i≠0:=by omega
  rw[upd_ne _ _ hi0]at hm;by_cases hik:i=k;·subst hik;rw[Zux (by simpa using hlt)]at hx;obtain rfl:=Zxh hx;rw[upd_same,hD,hdk];exact hq
  ·rw[Zuw (fun e=>hik e.symm),Zuw (fun e=>hi0 e.symm)]at hx;rw[upd_ne _ _ hik]at hm;rw[upd_ne _ _ hik,hD];exact h.old i x hi hm hx
 ·rw[hD];by_cases hi0:i=0;·rw[hi0];exact hd0
  ·refine h.deaf i (hi.imp (fun x=>?_) fun x=>by simpa using x);rw[upd_ne _ _ hi0]at x;by_cases hik:i=k;·subst hik;rw[upd_same]at x;exact absurd rfl x
   ·rwa [upd_ne _ _ hik]at x
 ·obtain⟨m1,h1,h2,h3⟩:=hMB a m ha;obtain⟨m2,h4,h5,h6⟩:=hMB b m' hb;have:=h.apart a b m1 m2 c d x hab h1 h4 (h2▸hc) (h5▸hd);rw[h3,h6]at this;exact this
 ·obtain⟨m1,h1,h2,h3⟩:=hMB x m hx;refine(hT.known i a ha hm x m1 h1).imp id fun hf b y hb hy=>?_;have:=hf b y (by rw[h2];exact hb) hy;rw[h3]at this;exact this
 ·rcases h.tr.hand i a (ZfH hn ha) hm with x|⟨i',m,h1,h2⟩|⟨i',p,h1,h2⟩;·exact .inl (x.app _)
  ·by_cases hik:i'=k;·subst hik;exact .inl (hknow i (Zje (y:=x0) h2 (by rw[<-hx0]) rfl))
   ·by_cases hi0:i'=0;·subst hi0;exact .inl (h2.app _)
    ·exact .inr (.inl ⟨i',m,by rw[upd_ne _ _ hi0,upd_ne _ _ hik];exact h1,h2.app _⟩)
  ·exact .inr (.inr ⟨i',p,h1,h2.app _⟩)
 ·rcases hMc i m hm with⟨rfl,rfl⟩|⟨hi0,hik,hm⟩;·have h0:=h.chanM 0 j' n0 hi hM0;rw[Zbk fun e=>hk (h.one 0 k j' j hi hj e).symm];exact h0
  ·rw[Zbk fun e=>hik (h.one i k j' j hi hj e)];exact h.chanM i j' m hi hm
 ·obtain⟨v',h1,h2,⟨op,h3,h4⟩,h5⟩:=h.chanS i j' p hi hp;have hp':=lt_size_of_getElem? h3;exact⟨v',h1,by rw[Zbk fun e=>hS i p hp (h.one i k j' j hi hj e)];exact h2,⟨op,by rw[getElem?_append_old hp'];exact h3,h4⟩,(heard_old hp').2 h5⟩
 ·refine h.job i hi (hm.imp (fun x=>?_) id);rw[upd_ne _ _ (show i≠0 by omega)]at x;by_cases hik:i=k;·subst hik;rw[upd_same]at x;exact absurd rfl x
  ·rwa [upd_ne _ _ hik]at x
 ·obtain⟨h1,h2⟩:=h.excl i p hp;exact⟨by rw[upd_ne _ _ (show i≠0 by omega),upd_ne _ _ (hS i p hp)];exact h1,h2⟩
 ·rcases hMc i m hm with⟨rfl,rfl⟩|⟨_,_,hm⟩;·omega
  ·exact h.stops i j' m hi hj' hm
 ·obtain⟨m1,h1,h2,h3⟩:=hMB i m hm;rw[<-h3];exact h.base i m1 b x h1 (by rw[h2];exact hb) hx
 ·rw[hwsz];exact⟨h.keep.1,fun x hx=>by rw[Zbk (by omega)];exact h.keep.2 x hx⟩
end
end Go.Twin
namespace Go.Twin
open Go.Conc
open Go.ConcN (sumTo upd sumTo_upd upd_ne upd_same)
section
variable {E:Env} {sh:Nat->Prop} {bs':List Frame} {Stop:Frame->List Frame->World->Prop}
theorem ZnU(hG:E.Fine) {B:Blk} {f fa:Frame} {cs ca:List Frame} {l w:World} (hR:Rel E sh bs' B f cs l fa ca w)(hc:f.mode=.run->Chk E f) (hgo:∀t d,∃f' cs' l' es,stepG E.P true (G f cs) (l.re t d)=.go (G f' cs') l' es)(hnl:∀t d f' cs' l' es,stepG E.P true (G f cs) (l.re t d)=.go (G f' cs') l' es->¬ZbR E.P f' cs' l') (ma:Bool):∃t d f' cs' l' es fa' ca' w' es' B',stepG E.P true (G f cs) (l.re t d)=.go (G f' cs') l' es/\stepG E.P ma (G fa ca) w=.go (G fa' ca') w' es'/\Rel E sh bs' B' f' cs' l' fa' ca' w'/\Went sh B l w B' l' w'/\w'.tape=w.tape/\∀e∈es',Zbu ⟨sh,fun _=>True⟩ B' e:=by
 let t:Nat->Question->Nat:=fun j q=>w.tape (w.drawn+j) q;obtain⟨f',cs',l',es,hst⟩:=hgo t 0;have hL:=hnl _ _ _ _ _ _ hst;have ho:¬Zbx [ZD E.P] f cs:=by
  intro ho;rcases Zg0 (l:=l.re t 0) hR.st.head.kind.1 ho with⟨o,x,es,h1⟩|⟨f2,cs2,l2,es2,h1,h2⟩;·rw[h1]at hst;cases hst
  ·rw[h1]at hst;simp only[GStep.go.injEq,G,Goroutine.mk.injEq,and_true]at hst;obtain⟨⟨rfl,rfl⟩,rfl,_⟩:=hst;exact hL h2
 have hw:WR E ⟨sh,fun _=>True⟩ B (l.re t 0) w:=hR.wr.retape rfl rfl rfl fun i q _=>by show w.tape (w.drawn+(0+i)) q=w.tape (w.drawn+i) q;rw[Zw9]
 have:=ZeG hG hR.st hw hR.low true ma hc (ZeH hR.st ho) (.inl fun _=>trivial);rw[hst]at this;rcases this with⟨f2,cs2,h1,hp⟩|⟨f2,cs2,fa',ca',w',es',B',new,h1,h2,h3,h4,h5⟩;·exfalso;simp only[G,Goroutine.mk.injEq,and_true]at h1;obtain⟨rfl,rfl⟩:=h1;exact hL (.inl hp)
 ·simp only[G,Goroutine.mk.injEq,and_true]at h1;obtain⟨rfl,rfl⟩:=h1;exact⟨t,0,f',cs',l',es,fa',ca',w',es',B',hst,h2,⟨h4,h3.wr.retape rfl rfl rfl fun _ _ h=>h.elim,fun b hb=>ZwS (hR.low b hb) h3.size.2.1⟩,⟨h3.le,h3.al,h3.keep,h3.size,⟨h3.same.1,h3.same.2.1⟩,⟨h3.lone.1,h3.lone.2.1⟩,h3.lkeep,h3.cov⟩,h3.same.2.2.1,fun e he=>h3.ev e (h5 e he)⟩
end
inductive W (E:Env):(Nat->Option Node)->Prop|mk (M:Nat->Option Node)(h:∀i n,M i=some n->n.stop n.f n.cs n.l∨((n.f.mode=.run->Chk E n.f)/\∀t d,∃f' cs' l' es,stepG E.P true (G n.f n.cs) (n.l.re t d)=.go (G f' cs') l' es))(hr:∀i n,M i=some n->n.stop n.f n.cs n.l->W E (upd M i none))(hs:∀i n t d f' cs' l' es B',M i=some n->¬n.stop n.f n.cs n.l->stepG E.P true (G n.f n.cs) (n.l.re t d)=.go (G f' cs') l' es->W E (upd M i (some {n with B:=B',f:=f',cs:=cs',l:=l'}))):W E M
section
variable {E:Env}
theorem Zdu{α:Type} (f:Nat->α) {i j:Nat} (h:i≠j)(x y:α):upd (upd f i x) j y=upd (upd f j y) i x:=by
 funext k;unfold upd;by_cases h1:k=j
 ·by_cases h2:k=i;·omega
  ·simp[h1,h2];omega
 ·by_cases h2:k=i;·simp[h1,h2];exact fun e=>absurd e h
  ·simp[h1,h2]
theorem Zb0{α:Type} (f:Nat->α)(i:Nat)(x y:α):upd (upd f i x) i y=upd f i y:=by funext k;unfold upd;by_cases h1:k=i<;>simp[h1]
theorem Zg4{α:Type} (f:Nat->α)(i:Nat)(x:α)(h:f i=x):upd f i x=f:=by
 funext k;unfold upd;by_cases h1:k=i;·simp[h1,h]
 ·simp[h1]
theorem W.empty:W E (fun _=>none):=.mk _ (fun i n h=>by cases h) (fun i n h=>by cases h) fun i n t d f' cs' l' es B' h=>by cases h
theorem W.drop{M:Nat->Option Node} (h:W E M)(i:Nat):W E (upd M i none):=by induction h with|mk M h hr hs ihr ihs=>
  have hM:∀j n,upd M i none j=some n->j≠i/\M j=some n:=fun j n=>Zbl;refine .mk _ (fun j n hj=>h j n (hM j n hj).2) (fun j n hj hst=>?_) fun j n t d f' cs' l' es B' hj hn hst=>?_;·obtain⟨h1,h2⟩:=hM j n hj;rw[Zdu M (fun e=>h1 e.symm)];exact ihr j n h2 hst
  ·obtain⟨h1,h2⟩:=hM j n hj;rw[Zdu M (fun e=>h1 e.symm)];exact ihs j n t d f' cs' l' es B' h2 hn hst
theorem W.add{Stop:Frame->List Frame->World->Prop} {f:Frame} {cs:List Frame} {l:World} (hL:LG E Stop f cs l) {i:Nat}:∀{M:Nat->Option Node},W E M->M i=none->∀(sh:Nat->Prop)(bs:List Frame)(B:Blk),W E (upd M i (some ⟨sh,bs,B,f,cs,l,Stop⟩)):=by induction hL with
 |stop f cs l hst=>intro M hW;induction hW with|mk M h hr hs ihr ihs=>
   intro hi sh bs B;have hM:∀j n,upd M i (some ⟨sh,bs,B,f,cs,l,Stop⟩) j=some n->(j=i/\n=⟨sh,bs,B,f,cs,l,Stop⟩)∨(j≠i/\M j=some n):=by
    intro j n hj;by_cases e:j=i;·subst e;rw[upd_same]at hj;exact .inl ⟨rfl,(Zxh hj).symm⟩
    ·rw[upd_ne _ _ e]at hj;exact .inr ⟨e,hj⟩
   refine .mk _ (fun j n hj=>?_) (fun j n hj hn=>?_) fun j n t d f' cs' l' es B' hj hn hs'=>?_
   ·rcases hM j n hj with⟨rfl,rfl⟩|⟨_,hj⟩;·exact .inl hst
    ·exact h j n hj
   ·rcases hM j n hj with⟨rfl,rfl⟩|⟨hji,hj⟩;·rw[Zb0,Zg4 M j none hi];exact .mk M h hr hs
    ·rw[Zdu M (fun e=>hji e.symm)];exact ihr j n hj hn (by rw[upd_ne _ _ (fun e=>hji e.symm)];exact hi) sh bs B
   ·rcases hM j n hj with⟨rfl,rfl⟩|⟨hji,hj⟩;·exact absurd hst hn
    ·rw[Zdu M (fun e=>hji e.symm)];exact ihs j n t d f' cs' l' es B' hj hn hs' (by rw[upd_ne _ _ (fun e=>hji e.symm)];exact hi) sh bs B
 |step f cs l hc hg hss ih=>intro M hW;induction hW with|mk M h hr hs ihr ihs=>
   intro hi sh bs B;have hM:∀j n,upd M i (some ⟨sh,bs,B,f,cs,l,Stop⟩) j=some n->(j=i/\n=⟨sh,bs,B,f,cs,l,Stop⟩)∨(j≠i/\M j=some n):=by
    intro j n hj;by_cases e:j=i;·subst e;rw[upd_same]at hj;exact .inl ⟨rfl,(Zxh hj).symm⟩
    ·rw[upd_ne _ _ e]at hj;exact .inr ⟨e,hj⟩
   refine .mk _ (fun j n hj=>?_) (fun j n hj hn=>?_) fun j n t d f' cs' l' es B' hj hn hs'=>?_
   ·rcases hM j n hj with⟨rfl,rfl⟩|⟨_,hj⟩;·exact .inr ⟨hc,hg⟩
    ·exact h j n hj
   ·rcases hM j n hj with⟨rfl,rfl⟩|⟨hji,hj⟩;·rw[Zb0,Zg4 M j none hi];exact .mk M h hr hs
    ·rw[Zdu M (fun e=>hji e.symm)];exact ihr j n hj hn (by rw[upd_ne _ _ (fun e=>hji e.symm)];exact hi) sh bs B
   ·rcases hM j n hj with⟨rfl,rfl⟩|⟨hji,hj⟩;·rw[Zb0];exact ih t d f' cs' l' es hs' (.mk M h hr hs) hi sh bs B'
    ·rw[Zdu M (fun e=>hji e.symm)];exact ihs j n t d f' cs' l' es B' hj hn hs' (by rw[upd_ne _ _ (fun e=>hji e.symm)];exact hi) sh bs B
theorem W.not_lost{M:Nat->Option Node} (hW:W E M):(∀i n,M i=some n->Halts n.stop)->∀i n,M i=some n->¬ZbR E.P n.f n.cs n.l:=by induction hW with|mk M h hr hs ihr ihs=>
  intro hS i n hi hl;by_cases hst:n.stop n.f n.cs n.l;·exact ZeK (hS i n hi) hst hl
  ·rcases h i n hi with h1|⟨_,h1⟩;·exact hst h1
   ·have hl':ZbR E.P n.f n.cs (n.l.re n.l.tape n.l.drawn):=hl;obtain⟨f',cs',l',es,h2⟩:=h1 n.l.tape n.l.drawn;rcases lost_step hl' with⟨o,w,es',h3⟩|⟨f2,cs2,l2,es',h3,h4⟩;·rw[h3]at h2;cases h2
    ·refine ihs i n n.l.tape n.l.drawn f2 cs2 l2 es' n.B hi hst h3 (fun j m hj=>?_) i _ (upd_same _ _ _) h4;by_cases e:j=i;·subst e;rw[upd_same]at hj;cases hj;exact hS j n hi
     ·rw[upd_ne _ _ e]at hj;exact hS j m hj
end
variable {M M' M'':Nat->Option Node}
def ZfI(P:Program)(Post:Value->World->Prop)(gs:Array Goroutine)(w:World)(sl:Option (Nat×Nat))(t:Trace)(i:Nat):Prop:=∃gs' w' sl' ops,runT P (crowd gs w sl) i=(.next (crowd gs' w' sl'),ops)/\Fin P Post gs' w' sl' (t++ops)
def Zch(E:Env)(j:Job):Prop:=∀{sh:Nat->Prop} {B:Blk} {f:Frame} {cs:List Frame} {l:World} {fa:Frame} {ca:List Frame} {w:World},j.stop f cs l->Rel E sh j.bs B f cs l fa ca w->∃v zz g₂ m,j.V v/\Zbh 8 v=true/\stepG E.P false (G fa ca) w=.comm g₂ #[scase j.ch v zz] true .send w #[]/\QuitsD E.P m 0 (Go.Conc.served g₂ undef)
structure Same (z:Zs)(M M':Nat->Option Node):Prop where
 node:∀i n',M' i=some n'->∃n,M i=some n/\n'.sh=n.sh/\n'.bs=n.bs/\n'.stop=n.stop/\n.B.le n'.B
 zero:z≠.run->M' 0=M 0
theorem Same.refl(z:Zs)(M:Nat->Option Node):Same z M M:=⟨fun i n h=>⟨n,h,rfl,rfl,rfl,Blk.le_refl _⟩,fun _=>rfl⟩
theorem Same.trans{z:Zs} (h:Same z M M')(k:Same z M' M''):Same z M M'':=⟨fun i n hi=>by obtain⟨n1,h1,h2,h3,h4,h5⟩:=k.node i n hi;obtain⟨n2,g1,g2,g3,g4,g5⟩:=h.node i n1 h1;exact⟨n2,g1,h2.trans g2,h3.trans g3,h4.trans g4,Blk.le_trans g5 h5⟩,fun hz=>(k.zero hz).trans (h.zero hz)⟩
theorem upd_some{α:Type} {f:Nat->Option α} {k j:Nat} {x n:α} (h:upd f k (some x) j=some n):(j=k/\n=x)∨(j≠k/\f j=some n):=by
 by_cases e:j=k;·subst e;rw[upd_same]at h;exact .inl ⟨rfl,(Zxh h).symm⟩
 ·rw[upd_ne _ _ e]at h;exact .inr ⟨e,h⟩
def Zb7(J:Nat->Option Job)(M:Nat->Option Node)(w:World)(M':Nat->Option Node)(w':World):Prop:=w.heap.size<=w'.heap.size/\∀x,x<w.heap.size->(∀i n b,M i=some n->n.B b x->n.sh b)->(∀k j,J k=some j->j.ch≠x)->w'.heap[x]?=w.heap[x]?/\∀i n b,M' i=some n->n.B b x->n.sh b
theorem Zb7.refl(J:Nat->Option Job)(M:Nat->Option Node)(w:World):Zb7 J M w M w:=⟨ZwO _,fun x _ h _=>⟨rfl,h⟩⟩
theorem Zb7.trans{J:Nat->Option Job} {w w' w'':World} (h:Zb7 J M w M' w')(k:Zb7 J M' w' M'' w''):Zb7 J M w M'' w'':=⟨ZwP h.1 k.1,fun x hx hM hJ=>by obtain⟨h1,h2⟩:=h.2 x hx hM hJ;obtain⟨h3,h4⟩:=k.2 x (ZwS hx h.1) h2 hJ;exact⟨h3.trans h1,h4⟩⟩
def Un(U:Nat->Prop)(M:Nat->Option Node)(S:Nat->Option Nat):Prop:=∀k,0<k->(U k↔(M k≠none∨S k≠none))
section
variable {E:Env} {W0:World} {J:Nat->Option Job} {U:Nat->Prop} {Post:Value->World->Prop}
theorem Zg5(hG:E.Fine)(hsh:E.sh=true)(hJ:∀k j,J k=some j->Zch E j) {M:Nat->Option Node} (hW:W E M):∀{z:Zs} {S:Nat->Option Nat} {gs:Array Goroutine} {w:World} {sl:Option (Nat×Nat)} {t:Trace} {q:Nat->Nat},Co E W0 J z M S gs w t q->(∀i n,M i=some n->Halts n.stop)->Un U M S->(∀{M':Nat->Option Node} {S':Nat->Option Nat} {gs':Array Goroutine} {w':World} {sl':Option (Nat×Nat)} {t':Trace} {q':Nat->Nat} {n':Node} {fa:Frame} {ca:List Frame},z=.run->Co E W0 J .run M' S' gs' w' t' q'->W E (upd M' 0 none)->Same z M M'->Zb7 J M w M' w'->Un U M' S'->gs'.size=gs.size->M' 0=some n'->n'.stop n'.f n'.cs n'.l->gs'[0]?=some (G fa ca)->q' 0=0->Rel E n'.sh n'.bs n'.B n'.f n'.cs n'.l fa ca w'->ZfI E.P Post gs' w' sl' t' 0)->(∀{M':Nat->Option Node} {S':Nat->Option Nat} {gs':Array Goroutine} {w':World} {sl':Option (Nat×Nat)} {t':Trace} {q':Nat->Nat} {n:Node} {v zz:Value} {k:Nat} {j:Job},z=.park j.ch zz->J k=some j->j.V v->M 0=some n->Same z M (upd M' 0 (some n))->Co E W0 J .run M' S' gs' w' t' q'->W E (upd M' 0 none)->M' 0=some {n with f:=n.f.finish v}->M' k=none->(∀x,0<x->(S' x=none->M' x=none->¬U x∨x=k)/\((M' x≠none∨S' x≠none)->U x/\x≠k))->gs'.size=gs.size-> w.heap.size<=w'.heap.size->Fin E.P Post gs' w' sl' t')->Fin E.P Post gs w sl t:=by induction hW with|mk M h hr hs ihr ihs=>
  have key:∀(N:Nat) {z:Zs} {S:Nat->Option Nat} {gs:Array Goroutine} {w:World} {sl:Option (Nat×Nat)} {t:Trace} {q:Nat->Nat},sumTo gs.size q=N->Co E W0 J z M S gs w t q->(∀i n,M i=some n->Halts n.stop)->Un U M S->(∀{M':Nat->Option Node} {S':Nat->Option Nat} {gs':Array Goroutine} {w':World} {sl':Option (Nat×Nat)} {t':Trace} {q':Nat->Nat} {n':Node} {fa:Frame} {ca:List Frame},z=.run->Co E W0 J .run M' S' gs' w' t' q'->W E (upd M' 0 none)->Same z M M'->Zb7 J M w M' w'->Un U M' S'->gs'.size=gs.size->M' 0=some n'->n'.stop n'.f n'.cs n'.l->gs'[0]?=some (G fa ca)->q' 0=0->Rel E n'.sh n'.bs n'.B n'.f n'.cs n'.l fa ca w'->ZfI E.P Post gs' w' sl' t' 0)->(∀{M':Nat->Option Node} {S':Nat->Option Nat} {gs':Array Goroutine} {w':World} {sl':Option (Nat×Nat)} {t':Trace} {q':Nat->Nat} {n:Node} {v zz:Value} {k:Nat} {j:Job},z=.park j.ch zz->J k=some j->j.V v->M 0=some n->Same z M (upd M' 0 (some n))->Co E W0 J .run M' S' gs' w' t' q'->W E (upd M' 0 none)->M' 0=some {n with f:=n.f.finish v}->M' k=none->(∀x,0<x->(S' x=none->M' x=none->¬U x∨x=k)/\((M' x≠none∨S' x≠none)->U x/\x≠k))->gs'.size=gs.size-> w.heap.size<=w'.heap.size->Fin E.P Post gs' w' sl' t')->Fin E.P Post gs w sl t:=by intro N;induction N using Nat.strongRecOn with|ind N ihN=>
    intro z S gs w sl t q hN hC hS hU K0 K1;have haw:∀g∈gs,awake g:=by
     intro g hg;obtain⟨i,hi,rfl⟩:=Array.mem_iff_getElem.1 hg;rcases hC.status (Zum hi)with h1|h1|⟨_,c,zz,fa,ca,_,h1⟩;·exact awake_of (.inl h1)
     ·exact awake_of (.inr (.inr h1))
     ·exact awake_of (.inr (.inl (by rw[h1];rfl)))
    have hrun:∃(i:Nat)(g:Goroutine),gs[i]?=some g/\g.status=.running:=by
     have key2:∀(i:Nat)(n:Node),M i=some n->(i=0->z=.run)->∃(i:Nat)(g:Goroutine),gs[i]?=some g/\g.status=.running:=by
      intro i n hi hz;obtain⟨fa,ca,g,h1,h2,_⟩:=hC.live i n hi;refine⟨i,g,h1,?_⟩;rcases h2 with⟨_,rfl⟩|⟨_,_,h2,_⟩
      ·unfold Zby;split;·cases hz rfl
       ·rfl
      ·exact h2
     cases hz:z with
     |run=>cases hm:M 0 with
      |none=>exact absurd hm hC.zero|some n=>exact key2 0 n hm fun _=>hz
     |park c zz=>obtain⟨k,j,n,h1,_,_,h4⟩:=hC.wait c zz hz;exact key2 k n h4 fun e=>by omega
    obtain⟨i,g,d,sl',hi,hgr,hst⟩:=crowd_pick (P:=E.P) (w:=w) (sl:=sl) haw hrun;have hlt:i<gs.size:=(Zuo.1 hi).1;replace hC:=hC.at_ d;cases hm:M i with
    |none=>
     have hpos:0<i:=Zw4 fun e=>hC.zero (e▸hm);have hq:=hC.old i g hpos hm hi;have hi0:(i==0)=false:=by simp;omega
     cases hqi:q i with|zero=>rw[hqi]at hq;rw[hq.1]at hgr;cases hgr|succ k=>
      rw[hqi]at hq;rcases hq with⟨hf,_⟩|⟨_,g',es,hmu,hstp,hq'⟩;·rw[hf]at hgr;cases hgr
      have hrunT:=runT_crowd_go (P:=E.P) (sl:=sl') (i:=i) hi (by rw[hi0];exact hstp (w.at d));have hsz:((gs.map (woken E.P g g' (w.at d))).setIfInBounds i g').size=gs.size:=by simp
      have hsum:sumTo gs.size (upd q i k)+(k+1)=sumTo gs.size q+k:=by have:=sumTo_upd q k id hlt;simpa [hqi] using this
      exact ZcP (hst.trans hrunT) (ihN (sumTo gs.size (upd q i k)) (by omega) (by rw[hsz]) (hC.leaver hpos hm hi hmu hq') hS hU (fun e1 e2 e3 e4 ek eu es=>K0 e1 e2 e3 e4 ek eu (es.trans hsz)) fun e1 e2 e3 e4 e5 e6 e7 e8 e9 e10 es=>K1 e1 e2 e3 e4 e5 e6 e7 e8 e9 e10 (es.trans hsz))
    |some n=>
     obtain⟨fa,ca,g1,h1,h2,hR⟩:=hC.live i n hm;rw[hi]at h1;obtain rfl:=Zxh h1;rcases h2 with⟨hq0,hg⟩|⟨hpos,hq1,_,hstp⟩
     ·have hz:i=0->z=.run:=by rintro rfl;rw[hg]at hgr;cases z with
       |run=>rfl|park c zz=>cases hgr
      have hgG:g=G fa ca:=by
       rw[hg];unfold Zby;split;·cases hz rfl
       ·rfl
      clear hg;subst hgG;by_cases hstop:n.stop n.f n.cs n.l
      ·rcases Nat.eq_zero_or_pos i with rfl|hpos;· obtain rfl:=hz rfl;obtain⟨gs',w',sl2,ops,h3,h4⟩:=K0 (sl':=sl') rfl hC ((W.mk M h hr hs).drop 0) (Same.refl _ _) (Zb7.refl _ _ _) hU rfl hm hstop hi hq0 hR;exact ZcP (hst.trans h3) h4
       ·
        obtain⟨j,hj⟩:=hC.job i hpos (.inl (by rw[hm];simp));obtain⟨hsj,hbj⟩:=hC.stops i j n hpos hj hm;rw[hbj]at hR;rw[hsj]at hstop;obtain⟨v,zz,g₂,m,hv,hcl,hcomm,hqu⟩:=hJ i j hj hstop hR;have hc:=hC.chanM i j n hj hm;have hi0:(i==0)=false:=by simp;omega
        by_cases hpk:∃zz,z=.park j.ch zz
        ·obtain⟨zz0,rfl⟩:=hpk;obtain⟨n0,hm0⟩:∃n0,M 0=some n0:=by cases h0:M 0 with
          |none=>exact absurd h0 hC.zero|some n0=>exact⟨n0,rfl⟩
         obtain⟨f0,c0,g0,k1,k2,k3⟩:=hC.live 0 n0 hm0;rcases k2 with⟨_,k2⟩|⟨k2,_⟩;case inr=>omega
         have k2':g0=parked (G f0 c0) #[rcase j.ch zz0] (.recv false):=k2;subst k2';have hp:partners (gs.setIfInBounds i ph) j.ch false=[(0,0)]:=by
          rw[partners_one (j:=0) (g:=parked (G f0 c0) #[rcase j.ch zz0] (.recv false)) (stand_get (by omega) k1) fun k x hk hx=>?_,offersAt_parked_recv,if_pos rfl];·rfl
          ·rcases getElem?_stand gs i k x hx with⟨rfl,rfl⟩|⟨_,hx⟩;·rfl
           ·rcases hC.status hx with h1|h1|⟨e,_⟩;·exact offersAt_of_not_blocked (by rw[h1];simp) _ _
            ·exact offersAt_of_not_blocked (by rw[h1];simp) _ _
            ·exact absurd e hk
         have hrunT:=crowd_send_meets (P:=E.P) (sl:=sl') (shape:=.send) (shj:=.recv false) hi (by rw[hi0];exact hcomm) hc (show 0≠i by omega) k1 hp;rw[Zdr]at hrunT;simp only[Array.empty_append]at hrunT;have hC':=hC.meet hsh hpos hm hm0 hj hcl k1 hqu (fn:=g₂.frame.fn) (fn':=(G f0 c0).frame.fn) (pos:=g₂.frame.place) (pos':=(G f0 c0).frame.place);refine ZcP (hst.trans hrunT) (K1 rfl hj hv hm0 ⟨fun x n' hx=>?_,fun _=>by rw[upd_same,hm0]⟩ hC' ?_ (upd_same _ _ _) ?_ (fun x hx=>?_) (by simp) (by simp[World.setChan,World.at]))
         ·by_cases hx0:x=0;·subst hx0;rw[upd_same]at hx;cases hx;exact⟨n0,hm0,rfl,rfl,rfl,Blk.le_refl _⟩
          ·rw[upd_ne _ _ hx0,upd_ne _ _ hx0]at hx;exact⟨n',(Zbl hx).2,rfl,rfl,rfl,Blk.le_refl _⟩
         ·rw[Zb0];exact(hr i n hm (by rw[hsj];exact hstop)).drop 0
         ·rw[upd_ne _ _ (show i≠0 by omega),upd_same]
         ·have hx0:x≠0:=by omega
          have hSi:S i=none:=by cases hs:S i with
           |none=>rfl|some p=>rw[(hC.excl i p hs).1]at hm;cases hm
          rw[upd_ne _ _ hx0];by_cases e:x=i;·subst e;rw[upd_same];exact⟨fun _ _=>.inr rfl,fun y=>absurd y (by rw[hSi];simp)⟩
          ·rw[upd_ne _ _ e];refine⟨fun h1 h2=>.inl fun hu=>?_,fun y=>⟨(hU x hx).2 y,e⟩⟩;rcases(hU x hx).1 hu with h3|h3;·exact h3 h2
           ·exact h3 h1
        ·have hz':∀zz,z≠.park j.ch zz:=fun zz e=>hpk ⟨zz,e⟩;have hrunT:=crowd_send_room (P:=E.P) (sl:=sl') (shape:=.send) hi (by rw[hi0];exact hcomm) hc (by decide) (hC.offers i hz');rw[Zdr]at hrunT;simp only[Array.empty_append]at hrunT;have hC':=hC.send hsh hpos hm hj hz' hv hqu (fn:=g₂.frame.fn) (pos:=g₂.frame.place);have hSm:Same z M (upd M i none):=⟨fun x n' hx=>⟨n',(Zbl hx).2,rfl,rfl,rfl,Blk.le_refl _⟩,fun _=>upd_ne _ _ (by omega)⟩;have hKp:Zb7 J M w (upd M i none) ((w.at d).setChan j.ch 1 #[v] false 1 0 false):=⟨by simp[World.setChan,World.at],fun x hx hM hJ=>⟨by rw[Zbk (fun e=>hJ i j hj e.symm)];rfl,fun i n b hi=>hM i n b (Zbl hi).2⟩⟩;refine ZcP (hst.trans hrunT) (ihr i n hm (by rw[hsj];exact hstop) hC' (fun x n' hx=>hS x n' (Zbl hx).2) (fun x hx=>?_) (fun e1 e2 e3 e4 ek eu es=>K0 e1 e2 e3 (hSm.trans e4) (hKp.trans ek) eu (es.trans (by simp))) fun e1 e2 e3 e4 e5 e6 e7 e8 e9 e10 es ew=>K1 e1 e2 e3 (by rw[upd_ne _ _ (by omega)]at e4;exact e4) (hSm.trans e5) e6 e7 e8 e9 e10 (es.trans (by simp)) (ZwP hKp.1 ew));rw[hU x hx];by_cases e:x=i;·subst e;rw[upd_same,upd_same,hm];simp
         ·rw[upd_ne _ _ e,upd_ne _ _ e]
      ·rcases h i n hm with h3|⟨hc,hg⟩;·exact absurd h3 hstop
       have hnl:∀t d f' cs' l' es,stepG E.P true (G n.f n.cs) (n.l.re t d)=.go (G f' cs') l' es->¬ZbR E.P f' cs' l':=by
        intro t d f' cs' l' es hstp;refine(hs i n t d f' cs' l' es n.B hm hstop hstp).not_lost (fun x n' hx=>?_) i _ (upd_same _ _ _);by_cases e:x=i;·subst e;rw[upd_same]at hx;cases hx;exact hS x n hm
        ·rw[upd_ne _ _ e]at hx;exact hS x n' hx
       obtain⟨tt,dd,f',cs',l',es,fa',ca',w',es',B',g1,g2,g3,g4,g5,g7⟩:=ZnU hG hR hc hg hnl (i==0);have hrunT:=runT_crowd_go (P:=E.P) (sl:=sl') (i:=i) hi g2;have hSm:Same z M (upd M i (some {n with B:=B',f:=f',cs:=cs',l:=l'})):=⟨fun x n' hx=>by
        by_cases e:x=i;·subst e;rw[upd_same]at hx;cases hx;exact⟨n,hm,rfl,rfl,rfl,g4.le⟩
        ·rw[upd_ne _ _ e]at hx;exact⟨n',hx,rfl,rfl,rfl,Blk.le_refl _⟩,fun hzz=>upd_ne _ _ (by rintro rfl;exact hzz (hz rfl))⟩;have hKp:Zb7 J M w (upd M i (some {n with B:=B',f:=f',cs:=cs',l:=l'})) w':=⟨g4.size.1,fun x hx hM hJ=>⟨g4.keep x hx fun b hb=>hM i n b hm hb,fun y n' b hy hb=>by
        rcases upd_some hy with⟨rfl,rfl⟩|⟨_,hy⟩
        ·rcases g4.al b x hb with h5|h5;·exact hM y n b hm h5
         ·have h6:=h5.2.1;have:(w.at d).heap.size=w.heap.size:=rfl;omega
        ·exact hM y n' b hy hb⟩⟩;refine ZcP (hst.trans hrunT) (ihs i n tt dd f' cs' l' es B' hm hstop g1 (hC.go hsh hm hz hq0 hi g3 g4 g5 g7 hR) (fun x n' hx=>?_) (fun x hx=>?_) (fun e1 e2 e3 e4 ek eu es=>K0 e1 e2 e3 (hSm.trans e4) (hKp.trans ek) eu (es.trans (by simp))) fun e1 e2 e3 e4 e5 e6 e7 e8 e9 e10 es ew=>K1 e1 e2 e3 ?_ (hSm.trans e5) e6 e7 e8 e9 e10 (es.trans (by simp)) (ZwP hKp.1 ew));·obtain⟨n2,k1,_,_,k4,_⟩:=hSm.node x n' hx;rw[k4];exact hS x n2 k1
       ·rw[hU x hx];by_cases e:x=i;·subst e;rw[upd_same,hm];simp
        ·rw[upd_ne _ _ e]
       ·rw[hSm.zero (by rw[e1];simp)]at e4;exact e4
     ·
      have hi0:(i==0)=false:=by simp;omega
      have hrunT:=runT_crowd_go (P:=E.P) (sl:=sl') (i:=i) hi (by rw[hi0];exact hstp (w.at d));rw[Zdr]at hrunT;have hsz:((gs.map (woken E.P g (G fa ca) (w.at d))).setIfInBounds i (G fa ca)).size=gs.size:=by simp
      have hsum:sumTo gs.size (upd q i 0)+1=sumTo gs.size q+0:=by have:=sumTo_upd q 0 id hlt;simpa [hq1] using this
      refine ZcP (hst.trans hrunT) ?_;rw[Zud];exact ihN (sumTo gs.size (upd q i 0)) (by omega) (by rw[hsz]) (hC.born hpos hm hi hR) hS hU (fun e1 e2 e3 e4 ek eu es=>K0 e1 e2 e3 e4 ek eu (es.trans hsz)) fun e1 e2 e3 e4 e5 e6 e7 e8 e9 e10 es=>K1 e1 e2 e3 e4 e5 e6 e7 e8 e9 e10 (es.trans hsz)
  intro z S gs w sl t q hC hS hU K0 K1;exact key _ rfl hC hS hU K0 K1
end
section
variable {E:Env} {W0:World} {J:Nat->Option Job} {z:Zs} {M:Nat->Option Node} {S:Nat->Option Nat} {gs:Array Goroutine} {w w':World} {t u:Trace} {q:Nat->Nat} {sl:Option (Nat×Nat)}
theorem Tr.renode{bnd:Nat} (h:Tr M S bnd t) {n n':Node} (h0:M 0=some n)(hf:∀a,ZeM n a->ZeM n' a):Tr (upd M 0 (some n')) S bnd t:=by
 refine⟨h.clean,h.seen,fun i a ha hm j m hj=>?_,fun i a ha hm=>?_⟩
 ·rcases upd_some hj with⟨rfl,rfl⟩|⟨_,hj⟩;·exact(h.known i a ha hm 0 n h0).imp id (hf a)
  ·exact h.known i a ha hm j m hj
 ·rcases h.hand i a ha hm with x|⟨k,m,h1,h2⟩|x;·exact .inl x
  ·by_cases e:k=0;·subst e;exact .inl h2
   ·exact .inr (.inl ⟨k,m,by rw[upd_ne _ _ e];exact h1,h2⟩)
  ·exact .inr (.inr x)
theorem Co.renode(h:Co E W0 J .run M S gs w t q) {n n':Node} (h0:M 0=some n) {fa:Frame} {ca:List Frame} (hg:gs[0]?=some (G fa ca))(hq0:q 0=0)(hR:Rel E n'.sh n'.bs n'.B n'.f n'.cs n'.l fa ca w)(hB:∀b' x,n'.B b' x->∃b,n.B b x/\(n.sh b->n'.sh b')):Co E W0 J .run (upd M 0 (some n')) S gs w t q:=by
 have hf:∀a,ZeM n a->ZeM n' a:=fun a hf b' x hb hx=>by obtain⟨b,h1,h2⟩:=hB b' x hb;obtain⟨h3,h4⟩:=hf b x h1 hx;exact⟨h2 h3,h4⟩
 have hMe:∀j,upd M 0 (some n') j≠none->M j≠none:=by
  intro j hj;by_cases e:j=0;·subst e;rw[h0];simp
  ·rwa [upd_ne _ _ e]at hj
 have hMn:∀j,upd M 0 (some n') j=none->M j=none:=by
  intro j hj;by_cases e:j=0;·subst e;rw[upd_same]at hj;cases hj
  ·rwa [upd_ne _ _ e]at hj
 refine⟨fun i m hi=>?_,fun i g hi hm hx=>h.old i g hi (hMn i hm) hx,fun i hi=>h.deaf i (hi.imp (hMe i) id),by rw[upd_same];simp,fun i j m m' b c x hij hi hj hb hc=>?_,h.tr.renode h0 hf,fun k j m hk hm=>?_,h.chanS,fun k hk hm=>h.job k hk (hm.imp (hMe k) id),h.one,h.fresh,fun k p hp=>?_,(by intro c zz hzz;cases hzz),fun k j m hk hj hm=>?_,fun i m b x hi hb hx=>?_,h.keep,h.same⟩
 ·rcases upd_some hi with⟨rfl,rfl⟩|⟨_,hi⟩;·exact⟨fa,ca,G fa ca,hg,.inl ⟨hq0,rfl⟩,hR⟩
  ·exact h.live i m hi
 ·rcases upd_some hi with⟨e1,rfl⟩|⟨hi0,hi2⟩<;>rcases upd_some hj with⟨e2,rfl⟩|⟨hj0,hj2⟩;·omega
  ·obtain⟨b1,h1,h2⟩:=hB b x hb;obtain⟨h3,h4⟩:=h.apart 0 j n m' b1 c x (fun e=>hj0 e.symm) h0 hj2 h1 hc;exact⟨h2 h3,h4⟩
  ·obtain⟨c1,h1,h2⟩:=hB c x hc;obtain⟨h3,h4⟩:=h.apart i 0 m n b c1 x hi0 hi2 h0 hb h1;exact⟨h3,h2 h4⟩
  ·exact h.apart i j m m' b c x hij hi2 hj2 hb hc
 ·rcases upd_some hm with⟨rfl,rfl⟩|⟨_,hm⟩;·exact h.chanM 0 j n hk h0
  ·exact h.chanM k j m hk hm
 ·obtain⟨h1,h2⟩:=h.excl k p hp;exact⟨by rw[upd_ne _ _ (by omega)];exact h1,h2⟩
 ·rcases upd_some hm with⟨rfl,rfl⟩|⟨_,hm⟩;·omega
  ·exact h.stops k j m hk hj hm
 ·rcases upd_some hi with⟨rfl,rfl⟩|⟨_,hi⟩;·obtain⟨b1,h1,h2⟩:=hB b x hb;exact h2 (h.base 0 n b1 x h0 h1 hx)
  ·exact h.base i m b x hi hb hx
theorem Co.park(h:Co E W0 J .run M S gs w t q) {n n0:Node} (h0:M 0=some n0) {fa:Frame} {ca:List Frame} (hg:gs[0]?=some (G fa ca))(hq0:q 0=0) {k:Nat} {j:Job} (hk0:0<k)(hj:J k=some j)(hM:M k=some n)(zz:Value):Co E W0 J (.park j.ch zz) M S (gs.setIfInBounds 0 (parked (G fa ca) #[rcase j.ch zz] (.recv false))) w t q:=by
 have hlt:0<gs.size:=(Zuo.1 hg).1;refine⟨fun i m hi=>?_,fun i g hi hm hx=>?_,fun i hi=>h.deaf i (hi.imp id fun x=>by simpa using x),h.zero,h.apart,h.tr,h.chanM,h.chanS,h.job,h.one,h.fresh,h.excl,fun c zz' hzz=>?_,h.stops,h.base,h.keep,h.same⟩
 ·obtain⟨fi,ci,g,h1,h2,h3⟩:=h.live i m hi;by_cases e:i=0
  ·subst e;rw[hg]at h1;rcases h2 with⟨_,h2⟩|⟨h2,_⟩;case inr=>omega
   have e2:=(Zxh h1).trans h2;have e3:fa=fi/\ca=ci:=by simp only[Zby,G,Goroutine.mk.injEq,and_true]at e2;exact e2
   obtain⟨rfl,rfl⟩:=e3;exact⟨fa,ca,_,by rw[Zux hlt];rfl,.inl ⟨hq0,rfl⟩,h3⟩
  ·refine⟨fi,ci,g,by rw[Zuw (fun x=>e x.symm)];exact h1,?_,h3⟩;unfold ZeN at h2 |-;rw[Zg3 (Zw4 e)]at h2 |-;exact h2
 ·rw[Zuw (by omega)]at hx;exact h.old i g hi hm hx
 ·cases hzz;exact⟨k,j,n,hk0,hj,rfl,hM⟩
theorem Co.take(hsh:E.sh=true)(h:Co E W0 J .run M S gs w t q) {n0:Node} (h0:M 0=some n0) {fa:Frame} {ca:List Frame} (hg:gs[0]?=some (G fa ca))(hq0:q 0=0) {k p:Nat} {j:Job} (hj:J k=some j)(hS:S k=some p) {v:Value} (hv:Zbh 8 v=true)(hc:w.heap[j.ch]?=some (.chan 1 #[v] false 1 0 false)) {fn:FuncId} {pos:String}:Co E W0 J .run (upd M 0 (some {n0 with f:=n0.f.finish v})) (upd S k none) (gs.setIfInBounds 0 (G (fa.finish v) ca)) (w.setChan j.ch 1 #[] false 1 1 false)
   (t++#[{g:=0,fn,pos,act:=.recv j.ch 0 1},{g:=0,fn,pos,act:=.recvDone j.ch 0}]) q:=by
 have hclt:j.ch<w.heap.size:=(Zuo.1 hc).1;have hlt0:0<gs.size:=(Zuo.1 hg).1;have hk:M k=none/\0<k:=h.excl k p hS;have hd0:Deaf t 0=0:=h.deaf 0 (.inl (by rw[h0];simp));have himg:∀{i:Nat} {m:Node} {b x:Nat},M i=some m->m.B b x->x≠j.ch:=by intro i m b x hi hb e;exact h.chan_free hi hc b (e▸hb)
 have hfr:=h.fresh k j hj;obtain⟨v0,_,_,⟨opS,hopS,hopA⟩,hopH⟩:=h.chanS k j p hj hS;have hpt:=lt_size_of_getElem? hopS;have hwsz:(w.setChan j.ch 1 #[] false 1 1 false).heap.size=w.heap.size:=by simp[World.setChan]
 generalize hx0:({g:=0,fn,pos,act:=.recv j.ch 0 1}:MemOp)=x0;generalize hx1:({g:=0,fn,pos,act:=.recvDone j.ch 0}:MemOp)=x1;have hT:Tr M S w.heap.size (t++#[x0,x1]):=Zm [x0,x1] h.tr (by simp[<-hx0,<-hx1,MemAct.touch?,MemAct.low,hclt]);have hn:∀op∈(#[x0,x1]:Trace),op.act.touch?=none:=by simp[<-hx0,<-hx1,MemAct.touch?]
 have hm0:∀op∈(#[x0,x1]:Trace),op.act≠.mark .disable/\op.act≠.mark .enable:=by simp[<-hx0,<-hx1]
 have hm1:∀op∈(#[x0]:Trace),op.act≠.mark .disable/\op.act≠.mark .enable:=by simp[<-hx0]
 have g1:(t++#[x0,x1])[t.size+1]?=some x1:=Zds (t:=t) (u:=#[x0,x1]) (i:=1) rfl;have e1:t++#[x0,x1]=(t++#[x0])++#[x1]:=by apply Array.ext';simp
 have d1:(t++#[x0,x1]).deaf 0 (t.size+1)=0:=by
  rw[e1,deaf_old (by simp)];have:(t++#[x0]).size=t.size+1:=by simp
  rw[<-this];exact(Zdt t 0 _ hm1).trans hd0
 have hD:∀g,Deaf (t++#[x0,x1]) g=Deaf t g:=fun g=>Zdt t g _ hm0;have hknow:∀i,Before t i p->Knows (t++#[x0,x1]) 0 i:=fun i hi=>Zjf (c:=j.ch) (x:=opS) (by rw[getElem?_append_old hpt];exact hopS) hopA ((heard_old hpt).2 hopH) g1 (by rw[<-hx1]) (by rw[<-hx1]) (ZeO g1 (by rw[<-hx1]) d1) (hi.app _);obtain⟨fa',ca',x',hg0,hs0,hr0⟩:=h.live 0 n0 h0;rw[hg]at hg0;rcases hs0 with⟨_,hs0⟩|⟨h00,_⟩;case inr=>omega
 have he:=(Zxh hg0).trans hs0;have efa:fa=fa'/\ca=ca':=by simp only[Zby,G,Goroutine.mk.injEq,and_true]at he;exact he
 obtain⟨rfl,rfl⟩:=efa;have hMB:∀i m,upd M 0 (some {n0 with f:=n0.f.finish v}) i=some m->∃m',M i=some m'/\m'.B=m.B/\m'.sh=m.sh:=by
  intro i m hi;rcases upd_some hi with⟨rfl,rfl⟩|⟨_,hi⟩;·exact⟨n0,h0,rfl,rfl⟩
  ·exact⟨m,hi,rfl,rfl⟩
 refine⟨fun i m hi=>?_,fun i x hi hm hx=>?_,fun i hi=>?_,by rw[upd_same];simp,fun a b m m' c d x hab ha hb hc hd=>?_,⟨hT.clean,by rw[hwsz];exact hT.seen,fun i a ha hm x m hx=>?_,fun i a ha hm=>?_⟩,fun i j' m hi hm=>?_,fun i j' p' hi hp=>?_,fun i hi hm=>?_,h.one,h.fresh,fun i p' hp=>?_,(by intro c zz hzz;cases hzz),fun i j' m hi hj' hm=>?_,fun i m b x hm hb hx=>?_,?_,h.same⟩
 ·rcases upd_some hi with⟨rfl,rfl⟩|⟨hi0,hi⟩;·refine⟨fa.finish v,ca,_,by rw[Zux hlt0];rfl,.inl ⟨hq0,rfl⟩,?_⟩;have h2:Rel E n0.sh n0.bs n0.B n0.f n0.cs n0.l fa ca (w.setChan j.ch 1 #[] false 1 1 false):=Zcv hsh hr0 (by rw[hwsz];exact ZwO _) fun b x hb=>Zbk (himg h0 hb);exact⟨h2.st.top (h2.st.head.finish (VR.closed 8 v hv)) (Blk.le_refl _) (ZcO _ _),h2.wr,h2.low⟩
  ·obtain⟨fi,ci,x,h1,h3,h2⟩:=h.live i m hi;exact⟨fi,ci,x,by rw[Zuw (fun e=>hi0 e.symm)];exact h1,h3,Zcv hsh h2 (by rw[hwsz];exact ZwO _) fun b x hb=>Zbk (himg hi hb)⟩
 ·have hi0:i≠0:=by omega
  rw[upd_ne _ _ hi0]at hm;rw[Zuw (fun e=>hi0 e.symm)]at hx;rw[hD];exact h.old i x hi hm hx
 ·rw[hD];refine h.deaf i (hi.imp (fun x=>?_) fun x=>by simpa using x);by_cases hi0:i=0;·subst hi0;rw[h0];simp
  ·rwa [upd_ne _ _ hi0]at x
 ·obtain⟨m1,h1,h2,h3⟩:=hMB a m ha;obtain⟨m2,h4,h5,h6⟩:=hMB b m' hb;have:=h.apart a b m1 m2 c d x hab h1 h4 (h2▸hc) (h5▸hd);rw[h3,h6]at this;exact this
 ·obtain⟨m1,h1,h2,h3⟩:=hMB x m hx;refine(hT.known i a ha hm x m1 h1).imp id fun hf b y hb hy=>?_;have:=hf b y (by rw[h2];exact hb) hy;rw[h3]at this;exact this
 ·rcases h.tr.hand i a (ZfH hn ha) hm with x|⟨i',m,h1,h2⟩|⟨i',p',h1,h2⟩;·exact .inl (x.app _)
  ·by_cases hi0:i'=0;·subst hi0;exact .inl (h2.app _)
   ·exact .inr (.inl ⟨i',m,by rw[upd_ne _ _ hi0];exact h1,h2.app _⟩)
  ·by_cases e:i'=k;·subst e;rw[hS]at h1;cases h1;exact .inl (hknow i h2)
   ·exact .inr (.inr ⟨i',p',by rw[upd_ne _ _ e];exact h1,h2.app _⟩)
 ·have hik:i≠k:=by rintro rfl;rw[upd_ne _ _ (by omega),hk.1]at hm;cases hm
  rw[Zbk fun e=>hik (h.one i k j' j hi hj e)];rcases upd_some hm with⟨rfl,rfl⟩|⟨_,hm⟩;·exact h.chanM 0 j' n0 hi h0
  ·exact h.chanM i j' m hi hm
 ·obtain⟨hik,hp⟩:=Zbl hp;obtain⟨v',h1,h2,⟨op,h3,h4⟩,h5⟩:=h.chanS i j' p' hi hp;have hp':=lt_size_of_getElem? h3;exact⟨v',h1,by rw[Zbk fun e=>hik (h.one i k j' j hi hj e)];exact h2,⟨op,by rw[getElem?_append_old hp'];exact h3,h4⟩,(heard_old hp').2 h5⟩
 ·refine h.job i hi (hm.imp (fun x=>by rwa [upd_ne _ _ (show i≠0 by omega)]at x) fun x=>?_);by_cases e:i=k;·subst e;rw[upd_same]at x;exact absurd rfl x
  ·rwa [upd_ne _ _ e]at x
 ·obtain⟨hik,hp⟩:=Zbl hp;obtain⟨h1,h2⟩:=h.excl i p' hp;exact⟨by rw[upd_ne _ _ (show i≠0 by omega)];exact h1,h2⟩
 ·rcases upd_some hm with⟨rfl,rfl⟩|⟨_,hm⟩;·omega
  ·exact h.stops i j' m hi hj' hm
 ·obtain⟨m1,h1,h2,h3⟩:=hMB i m hm;rw[<-h3];exact h.base i m1 b x h1 (by rw[h2];exact hb) hx
 ·rw[hwsz];exact⟨h.keep.1,fun x hx=>by rw[Zbk (by omega)];exact h.keep.2 x hx⟩
end
section
variable {E:Env} {W0:World} {J:Nat->Option Job} {z:Zs} {M:Nat->Option Node} {S:Nat->Option Nat} {gs:Array Goroutine} {w w':World} {t u:Trace} {q:Nat->Nat} {sl:Option (Nat×Nat)}
theorem Rel.fin{sh:Nat->Prop} {bs:List Frame} {B:Blk} {f fa:Frame} {cs ca:List Frame} {l:World} (h:Rel E sh bs B f cs l fa ca w) {v v':Value} (hv:VR E B v v'):Rel E sh bs B (f.finish v) cs l (fa.finish v') ca w:=⟨h.st.top (h.st.head.finish hv) (Blk.le_refl _) (ZcO _ _),h.wr,h.low⟩
theorem Co.made(hsh:E.sh=true)(h:Co E W0 J .run M S gs w t q) {n0:Node} (h0:M 0=some n0) {fa:Frame} {ca:List Frame} (hg:gs[0]?=some (G fa ca))(hq0:q 0=0) {v:Value} (hv:VR E n0.B v v) {o:Obj} (hw:w'.heap=w.heap.push o)(hs:w'.os=w.os/\w'.output=w.output/\w'.tape=w.tape):Co E W0 J .run (upd M 0 (some {n0 with f:=n0.f.finish v})) S ((gs.map (woken E.P (G fa ca) (G (fa.finish v) ca) w')).setIfInBounds 0 (G (fa.finish v) ca)) w' t q:=by
 have hlt0:0<gs.size:=(Zuo.1 hg).1;have hk:∀x,x<w.heap.size->w'.heap[x]?=w.heap[x]?:=fun x hx=>by rw[hw,Zut hx,Zum hx]
 have hsz:w.heap.size<=w'.heap.size:=by rw[hw];simp
 have lt_of:∀{x:Nat} {o:Obj},w.heap[x]?=some o->x<w.heap.size:=fun h=>(Zuo.1 h).1;have hkk:∀{x:Nat} {o:Obj},w.heap[x]?=some o->w'.heap[x]?=some o:=fun hx=>by rw[hk _ (lt_of hx)];exact hx
 obtain⟨fa',ca',x',hg0,hs0,hr0⟩:=h.live 0 n0 h0;rw[hg]at hg0;rcases hs0 with⟨_,hs0⟩|⟨h00,_⟩;case inr=>omega
 have he:=(Zxh hg0).trans hs0;have efa:fa=fa'/\ca=ca':=by simp only[Zby,G,Goroutine.mk.injEq,and_true]at he;exact he
 obtain⟨rfl,rfl⟩:=efa;have hMB:∀i m,upd M 0 (some {n0 with f:=n0.f.finish v}) i=some m->∃m',M i=some m'/\m'.B=m.B/\m'.sh=m.sh:=by
  intro i m hi;rcases upd_some hi with⟨rfl,rfl⟩|⟨_,hi⟩;·exact⟨n0,h0,rfl,rfl⟩
  ·exact⟨m,hi,rfl,rfl⟩
 have hMe:∀j,upd M 0 (some {n0 with f:=n0.f.finish v}) j≠none->M j≠none:=by
  intro j hj;by_cases e:j=0;·subst e;rw[h0];simp
  ·rwa [upd_ne _ _ e]at hj
 have hzc:∀c zz,Zs.run=.park c zz->∃cap buf s r tm,w'.heap[c]?=some (.chan cap buf false s r tm):=by intro c zz hzz;cases hzz
 refine⟨fun i m hi=>?_,fun i x hi hm hx=>?_,fun i hi=>h.deaf i (hi.imp (hMe i) fun x=>by simpa using x),by rw[upd_same];simp,fun a b m m' c d x hab ha hb hc hd=>?_,(h.tr.renode (n':={n0 with f:=n0.f.finish v}) h0 fun a ha=>ha).mono hsz,fun i j' m hi hm=>?_,fun i j' p' hi hp=>?_,fun i hi hm=>h.job i hi (hm.imp (hMe i) id),h.one,h.fresh,fun i p' hp=>?_,(by intro c zz hzz;cases hzz),fun i j' m hi hj' hm=>?_,fun i m b x hm hb hx=>?_,?_,⟨hs.1.trans h.same.1,hs.2.1.trans h.same.2.1,hs.2.2.trans h.same.2.2⟩⟩
 ·rcases upd_some hi with⟨rfl,rfl⟩|⟨hi0,hi⟩;·refine⟨fa.finish v,ca,G (fa.finish v) ca,by rw[Zux (by simpa using hlt0)],.inl ⟨hq0,rfl⟩,?_⟩;exact(Zcv hsh hr0 hsz fun b x hb=>hk x (Zcu hr0 hb).1).fin hv
  ·obtain⟨fi,ci,x,h1,h3,h2⟩:=h.live i m hi;exact⟨fi,ci,x,by rw[ZcQ hi0,h1,Zxg,h3.woken hzc],h3,Zcv hsh h2 hsz fun b x hb=>hk x (Zcu h2 hb).1⟩
 ·have hi0:i≠0:=by omega
  rw[upd_ne _ _ hi0]at hm;rw[ZcQ hi0]at hx;obtain⟨y,hy,rfl⟩:=Zxf.1 hx;have hqj:=h.old i y hi hm hy;rw[woken_quitsD hqj];exact hqj
 ·obtain⟨m1,h1,h2,h3⟩:=hMB a m ha;obtain⟨m2,h4,h5,h6⟩:=hMB b m' hb;have:=h.apart a b m1 m2 c d x hab h1 h4 (h2▸hc) (h5▸hd);rw[h3,h6]at this;exact this
 ·rcases upd_some hm with⟨rfl,rfl⟩|⟨_,hm⟩;·exact hkk (h.chanM 0 j' n0 hi h0)
  ·exact hkk (h.chanM i j' m hi hm)
 ·obtain⟨v',h1,h2,h3,h5⟩:=h.chanS i j' p' hi hp;exact⟨v',h1,hkk h2,h3,h5⟩
 ·obtain⟨h1,h2⟩:=h.excl i p' hp;exact⟨by rw[upd_ne _ _ (show i≠0 by omega)];exact h1,h2⟩
 ·rcases upd_some hm with⟨rfl,rfl⟩|⟨_,hm⟩;·omega
  ·exact h.stops i j' m hi hj' hm
 ·obtain⟨m1,h1,h2,h3⟩:=hMB i m hm;rw[<-h3];exact h.base i m1 b x h1 (by rw[h2];exact hb) hx
 ·exact⟨ZwP h.keep.1 hsz,fun x hx=>by rw[hk x (ZwS hx h.keep.1)];exact h.keep.2 x hx⟩
theorem Co.spawn(h:Co E W0 J .run M S gs w t q) {n0 nK:Node} (h0:M 0=some n0) {fa fc:Frame} {ca cc:List Frame} (hg:gs[0]?=some (G fa ca))(hq0:q 0=0) {jb:Job} (hJK:J gs.size=none)(hnb:nK.bs=jb.bs)(hns:nK.stop=jb.stop)(hch:w.heap[jb.ch]?=some (.chan 1 #[] false 0 0 false))(hone:∀k j,J k=some j->j.ch≠jb.ch)(hfresh:W0.heap.size<=jb.ch) {child:Goroutine} (hcr:child.status=.running)(hcs:∀w,stepG E.P false child w=.go (G fc cc) w #[])(hR:Rel E nK.sh nK.bs nK.B nK.f nK.cs nK.l fc cc w)(hB:∀b x,nK.B b x->nK.sh b/\∃b',n0.B b' x/\n0.sh b') {fn fn':FuncId} {pos:String}:Co E W0 (upd J gs.size (some jb)) .run (upd (upd M 0 (some {n0 with f:=n0.f.finish undef})) gs.size (some nK)) S ((gs.setIfInBounds 0 (G (fa.finish undef) ca)).push child) w (t++#[{g:=0,fn,pos,act:=.go gs.size},{g:=gs.size,fn:=fn',pos,act:=.start}]) (upd q gs.size 1):=by
 have hlt0:0<gs.size:=(Zuo.1 hg).1;have hK0:gs.size≠0:=by omega
 obtain⟨fa',ca',x',hg0,hs0,hr0⟩:=h.live 0 n0 h0;rw[hg]at hg0;rcases hs0 with⟨_,hs0⟩|⟨h00,_⟩;case inr=>omega
 have he:=(Zxh hg0).trans hs0;have efa:fa=fa'/\ca=ca':=by simp only[Zby,G,Goroutine.mk.injEq,and_true]at he;exact he
 obtain⟨rfl,rfl⟩:=efa;have hMlt:∀i m,M i=some m->i<gs.size:=by intro i m hi;obtain⟨_,_,_,h1,_⟩:=h.live i m hi;exact(Zuo.1 h1).1
 have hSK:S gs.size=none:=by cases hs:S gs.size with|none=>rfl|some p=>obtain⟨j,hj⟩:=h.job gs.size (by omega) (.inr (by rw[hs];simp));rw[hJK]at hj;cases hj
 have hJ':∀k j,upd J gs.size (some jb) k=some j->(k=gs.size/\j=jb)∨(k≠gs.size/\J k=some j):=fun k j=>upd_some;have hd0:Deaf t 0=0:=h.deaf 0 (.inl (by rw[h0];simp));have hdK:Deaf t gs.size=0:=h.deaf gs.size (.inr (ZwO _));generalize hx0:({g:=0,fn,pos,act:=.go gs.size}:MemOp)=x0;generalize hx1:({g:=gs.size,fn:=fn',pos,act:=.start}:MemOp)=x1;have hT:Tr M S w.heap.size (t++#[x0,x1]):=Zm [x0,x1] h.tr (by simp[<-hx0,<-hx1,MemAct.touch?,MemAct.low]);have hn:∀op∈(#[x0,x1]:Trace),op.act.touch?=none:=by simp[<-hx0,<-hx1,MemAct.touch?]
 have hm0:∀op∈(#[x0,x1]:Trace),op.act≠.mark .disable/\op.act≠.mark .enable:=by simp[<-hx0,<-hx1]
 have hm1:∀op∈(#[x0]:Trace),op.act≠.mark .disable/\op.act≠.mark .enable:=by simp[<-hx0]
 have g0:(t++#[x0,x1])[t.size]?=some x0:=by have:=Zds (t:=t) (u:=#[x0,x1]) (i:=0) rfl;rwa [ZwK]at this
 have g1:(t++#[x0,x1])[t.size+1]?=some x1:=Zds (t:=t) (u:=#[x0,x1]) (i:=1) rfl;have e1:t++#[x0,x1]=(t++#[x0])++#[x1]:=by apply Array.ext';simp
 have d1:(t++#[x0,x1]).deaf gs.size (t.size+1)=0:=by
  rw[e1,deaf_old (by simp)];have:(t++#[x0]).size=t.size+1:=by simp
  rw[<-this];exact(Zdt t gs.size _ hm1).trans hdK
 have d0:(t++#[x0,x1]).deaf 0 t.size=0:=by rw[deaf_old (ZwO _)];exact hd0
 have hD:∀g,Deaf (t++#[x0,x1]) g=Deaf t g:=fun g=>Zdt t g _ hm0;have hknow:∀i,Knows t 0 i->Knows (t++#[x0,x1]) gs.size i:=fun i hi=>⟨t.size+1,x1,g1,by rw[<-hx1],.inr ((hi.hb_new (y:=x0) (ZwO _) g0 (by rw[<-hx0])).trans (.single (.inr ⟨.spawn (child:=gs.size) (by simp[Trace.act?,<-hx0]) (by simp[Trace.act?,<-hx1]) (by simp[Trace.g?,<-hx1]),ZeO g0 (by rw[<-hx0]) d0,ZeO g1 (by rw[<-hx1]) d1⟩)))⟩;have hMc:∀i m,upd (upd M 0 (some {n0 with f:=n0.f.finish undef})) gs.size (some nK) i=some m->(i=gs.size/\m=nK)∨(i≠gs.size/\∃m',M i=some m'/\m'.B=m.B/\m'.sh=m.sh/\(i≠0->m'=m)/\(i=0->m={n0 with f:=n0.f.finish undef}/\m'=n0)):=by
  intro i m hi;rcases upd_some hi with⟨h1,h2⟩|⟨h1,h2⟩;·exact .inl ⟨h1,h2⟩
  ·rcases upd_some h2 with⟨rfl,rfl⟩|⟨h3,h4⟩;·exact .inr ⟨h1,n0,h0,rfl,rfl,fun e=>absurd rfl e,fun _=>⟨rfl,rfl⟩⟩
   ·exact .inr ⟨h1,m,h4,rfl,rfl,fun _=>rfl,fun e=>absurd e h3⟩
 have hget:∀i,i≠0->i≠gs.size->((gs.setIfInBounds 0 (G (fa.finish undef) ca)).push child)[i]?=gs[i]?:=by intro i h1 h2;rw[Zus];rw[if_neg (by simpa using h2),Zuw (fun e=>h1 e.symm)]
 have hget0:((gs.setIfInBounds 0 (G (fa.finish undef) ca)).push child)[0]?=some (G (fa.finish undef) ca):=by rw[Zus,if_neg (by simpa using fun e=>hK0 e.symm),Zux hlt0]
 have hgetK:((gs.setIfInBounds 0 (G (fa.finish undef) ca)).push child)[gs.size]?=some child:=by rw[Zus,if_pos (by simp)]
 refine⟨fun i m hi=>?_,fun i x hi hm hx=>?_,fun i hi=>?_,?_,fun a b m m' c d x hab ha hb hc hd=>?_,⟨hT.clean,hT.seen,fun i a ha hm x m hx=>?_,fun i a ha hm=>?_⟩,fun i j' m hi hm=>?_,fun i j' p' hi hp=>?_,fun i hi hm=>?_,fun k k' j j' hk hk' he=>?_,fun k j hk=>?_,fun i p' hp=>?_,(by intro c zz hzz;cases hzz),fun i j' m hi hj' hm=>?_,fun i m b x hm hb hx=>?_,h.keep,h.same⟩
 ·rcases hMc i m hi with⟨rfl,rfl⟩|⟨hiK,m',h1,h2,h3,h4,h5⟩;·exact⟨fc,cc,child,hgetK,.inr ⟨by omega,upd_same _ _ _,hcr,hcs⟩,hR⟩
  ·by_cases e:i=0;·subst e;obtain⟨rfl,rfl⟩:=h5 rfl;exact⟨fa.finish undef,ca,G (fa.finish undef) ca,hget0,.inl ⟨by rw[upd_ne _ _ hiK];exact hq0,rfl⟩,hr0.fin undefR⟩
   ·obtain rfl:=h4 e;obtain⟨fi,ci,y,g1,g2,g3⟩:=h.live i m' h1;exact⟨fi,ci,y,by rw[hget i e hiK];exact g1,by rw[upd_ne _ _ hiK];exact g2,g3⟩
 ·have hi0:i≠0:=by omega
  have hiK:i≠gs.size:=by rintro rfl;rw[upd_same]at hm;cases hm
  rw[upd_ne _ _ hiK,upd_ne _ _ hi0]at hm;rw[hget i hi0 hiK]at hx;rw[hD,upd_ne _ _ hiK];exact h.old i x hi hm hx
 ·rw[hD];by_cases hiK:i=gs.size;·subst hiK;exact hdK
  ·refine h.deaf i (hi.imp (fun x=>?_) fun x=>by simp at x;omega);rw[upd_ne _ _ hiK]at x;by_cases e:i=0;·subst e;rw[h0];simp
   ·rwa [upd_ne _ _ e]at x
 ·rw[upd_ne _ _ (fun e=>hK0 e.symm),upd_same];simp
 ·rcases hMc a m ha with⟨ea,rfl⟩|⟨haK,m1,h1,h2,h3,_⟩<;>rcases hMc b m' hb with⟨eb,rfl⟩|⟨hbK,m2,h4,h5,h6,_⟩;·omega
  ·obtain⟨k1,b',k2,k3⟩:=hB c x hc;refine⟨k1,?_⟩;rw[<-h6];by_cases e:b=0;·subst e;rw[h0]at h4;cases h4;have:b'=d:=hr0.wr.inj b' d x k2 (by rw[h5];exact hd);rw[<-this];exact k3
   ·exact(h.apart 0 b n0 m2 b' d x (fun y=>e y.symm) h0 h4 k2 (by rw[h5];exact hd)).2
  ·obtain⟨k1,b',k2,k3⟩:=hB d x hd;refine⟨?_,k1⟩;rw[<-h3];by_cases e:a=0;·subst e;rw[h0]at h1;cases h1;have:b'=c:=hr0.wr.inj b' c x k2 (by rw[h2];exact hc);rw[<-this];exact k3
   ·exact(h.apart a 0 m1 n0 c b' x e h1 h0 (by rw[h2];exact hc) k2).1
  ·have:=h.apart a b m1 m2 c d x hab h1 h4 (by rw[h2];exact hc) (by rw[h5];exact hd);rw[h3,h6]at this;exact this
 ·rcases hMc x m hx with⟨rfl,rfl⟩|⟨_,m1,h1,h2,h3,_⟩
  ·rcases h.tr.known i a (ZfH hn ha) hm 0 n0 h0 with hk|hf;·exact .inl (hknow i hk)
   ·refine .inr fun b y hb hy=>?_;obtain⟨k1,b',k2,k3⟩:=hB b y hb;exact⟨k1,(hf b' y k2 hy).2⟩
  ·refine(hT.known i a ha hm x m1 h1).imp id fun hf b y hb hy=>?_;have:=hf b y (by rw[h2];exact hb) hy;rw[h3]at this;exact this
 ·rcases h.tr.hand i a (ZfH hn ha) hm with x|⟨i',m,h1,h2⟩|⟨i',p',h1,h2⟩;·exact .inl (x.app _)
  ·by_cases hi0:i'=0;·subst hi0;exact .inl (h2.app _)
   ·refine .inr (.inl ⟨i',m,?_,h2.app _⟩);have:=hMlt i' m h1;rw[upd_ne _ _ (show i'≠gs.size by omega),upd_ne _ _ hi0];exact h1
  ·exact .inr (.inr ⟨i',p',h1,h2.app _⟩)
 ·rcases hJ' i j' hi with⟨rfl,rfl⟩|⟨hiK,hi⟩;·exact hch
  ·rcases hMc i m hm with⟨e,_⟩|⟨_,m1,h1,_⟩;·exact absurd e hiK
   ·exact h.chanM i j' m1 hi h1
 ·have hiK:i≠gs.size:=by rintro rfl;rw[hSK]at hp;cases hp
  rw[upd_ne _ _ hiK]at hi;obtain⟨v',h1,h2,⟨op,h3,h4⟩,h5⟩:=h.chanS i j' p' hi hp;have hp':=lt_size_of_getElem? h3;exact⟨v',h1,h2,⟨op,by rw[getElem?_append_old hp'];exact h3,h4⟩,(heard_old hp').2 h5⟩
 ·by_cases hiK:i=gs.size;·subst hiK;exact⟨jb,upd_same _ _ _⟩
  ·rw[upd_ne _ _ hiK];refine h.job i hi (hm.imp (fun x=>?_) id);rwa [upd_ne _ _ hiK,upd_ne _ _ (by omega)]at x
 ·rcases hJ' k j hk with⟨e1,e2⟩|⟨hkK,hk2⟩<;>rcases hJ' k' j' hk' with⟨e3,e4⟩|⟨hkK',hk2'⟩;·rw[e1,e3]
  ·exact absurd (by rw[<-e2];exact he.symm) (hone k' j' hk2')
  ·exact absurd (by rw[<-e4];exact he) (hone k j hk2)
  ·exact h.one k k' j j' hk2 hk2' he
 ·rcases hJ' k j hk with⟨rfl,rfl⟩|⟨_,hk⟩;·exact hfresh
  ·exact h.fresh k j hk
 ·have hiK:i≠gs.size:=by rintro rfl;rw[hSK]at hp;cases hp
  obtain⟨h1,h2⟩:=h.excl i p' hp;exact⟨by rw[upd_ne _ _ hiK,upd_ne _ _ (show i≠0 by omega)];exact h1,h2⟩
 ·rcases hMc i m hm with⟨rfl,rfl⟩|⟨hiK,m1,h1,h2,h3,h4,h5⟩;·rw[upd_same]at hj';cases hj';exact⟨hns,hnb⟩
  ·rw[upd_ne _ _ hiK]at hj';obtain rfl:=h4 (by omega);exact h.stops i j' m1 hi hj' h1
 ·rcases hMc i m hm with⟨rfl,rfl⟩|⟨hiK,m1,h1,h2,h3,h4,h5⟩;·exact(hB b x hb).1
  ·rw[<-h3];exact h.base i m1 b x h1 (by rw[h2];exact hb) hx
end
structure Ready (E:Env)(W0:World)(J:Nat->Option Job)(U:Nat->Prop)(Ch:Option Nat)(n:Node)(M:Nat->Option Node)(S:Nat->Option Nat)(gs:Array Goroutine)(w:World)(t:Trace)(q:Nat->Nat)(fa:Frame)(ca:List Frame):Prop where
 co:Co E W0 J .run M S gs w t q
 tree:W E (upd M 0 none)
 halts:∀i m,0<i->M i=some m->Halts m.stop
 un:Un U M S
 node:∃s,M 0=some {n with stop:=s}
 gs0:gs[0]?=some (G fa ca)
 q0:q 0=0
 rel:Rel E n.sh n.bs n.B n.f n.cs n.l fa ca w
 pend:∀c,Ch=some c->w.heap[c]?=some (.chan 1 #[] false 0 0 false)/\W0.heap.size<=c/\∀k j,J k=some j->j.ch≠c
 jlt:∀k j,J k=some j->k<gs.size/\j.ch<w.heap.size
def ZcR(E:Env)(W0:World)(J:Nat->Option Job)(U:Nat->Prop)(Ch:Option Nat)(Post:Value->World->Prop)(n:Node):Prop:=∀{M:Nat->Option Node} {S:Nat->Option Nat} {gs:Array Goroutine} {w:World} {sl:Option (Nat×Nat)} {t:Trace} {q:Nat->Nat} {fa:Frame} {ca:List Frame},Ready E W0 J U Ch n M S gs w t q fa ca->ZfI E.P Post gs w sl t 0
def KGo(E:Env)(W0:World)(J:Nat->Option Job)(U:Nat->Prop)(Ch:Option Nat)(Post:Value->World->Prop)(n:Node):Prop:=∀{M:Nat->Option Node} {S:Nat->Option Nat} {gs:Array Goroutine} {w:World} {sl:Option (Nat×Nat)} {t:Trace} {q:Nat->Nat} {fa:Frame} {ca:List Frame},Ready E W0 J U Ch n M S gs w t q fa ca->Fin E.P Post gs w sl t
section
variable {E:Env} {W0:World} {J:Nat->Option Job} {U:Nat->Prop} {Ch:Option Nat} {Post:Value->World->Prop} {n:Node}
theorem Zt{M:Nat->Option Node} {S:Nat->Option Nat} {gs:Array Goroutine} {w:World} {t:Trace} {q:Nat->Nat} {fa:Frame} {ca:List Frame} (h:Ready E W0 J U Ch n M S gs w t q fa ca)(s:Frame->List Frame->World->Prop):Co E W0 J .run (upd M 0 (some {n with stop:=s})) S gs w t q:=by obtain⟨s0,h0⟩:=h.node;exact h.co.renode h0 h.gs0 h.q0 h.rel fun b' x hb=>⟨b',hb,id⟩
theorem ZnV(hG:E.Fine)(hsh:E.sh=true)(hJ:∀k j,J k=some j->Zch E j) {Stop:Frame->List Frame->World->Prop} (hS:Halts Stop)(hL:LG E Stop n.f n.cs n.l)(k:∀n',n'.sh=n.sh->n'.bs=n.bs->n.B.le n'.B->Stop n'.f n'.cs n'.l->ZcR E W0 J U Ch Post n'):KGo E W0 J U Ch Post n:=by
 intro M S gs w sl t q fa ca h;have hC:=Zt h Stop;have hT:W E (upd M 0 (some {n with stop:=Stop})):=by have:=h.tree.add hL (upd_same _ _ _) n.sh n.bs n.B;rwa [Zb0]at this
 obtain⟨s0,h0⟩:=h.node;refine Zg5 (U:=U) hG hsh hJ hT hC (fun i m hi=>?_) (fun x hx=>?_) ?_ (by intro _ _ _ _ _ _ _ _ _ _ _ _ e;cases e)
 ·rcases upd_some hi with⟨_,rfl⟩|⟨h1,hi⟩;·exact hS
  ·exact h.halts i m (Zw4 h1) hi
 ·rw[upd_ne _ _ (by omega)];exact h.un x hx
 ·intro M' S' gs' w' sl' t' q' n' fa' ca' _ hC' hW' hSm hKp hU' hsz h0' hst hg' hq' hR';obtain⟨n1,h1,h2,h3,h4,h5⟩:=hSm.node 0 n' h0';rw[upd_same]at h1;cases h1;refine k n' h2 h3 h5 (by rw[h4]at hst;exact hst) ⟨hC',hW',fun i m hi hm=>?_,hU',⟨n'.stop,h0'⟩,hg',hq',hR',fun c hc=>?_,fun k' j hj=>?_⟩;·obtain⟨m1,g1,_,_,g4,_⟩:=hSm.node i m hm;rw[upd_ne _ _ (by omega)]at g1;rw[g4];exact h.halts i m1 hi g1
  ·obtain⟨g1,g2,g3⟩:=h.pend c hc;refine⟨?_,g2,g3⟩;rw[(hKp.2 c (Zuo.1 g1).1 (fun i m b hi hb=>absurd hb (hC.chan_free hi g1 b)) g3).1];exact g1
  ·obtain⟨g1,g2⟩:=h.jlt k' j hj;exact⟨by rw[hsz];exact g1,ZwS g2 hKp.1⟩
theorem Co.offers_send{z:Zs} {M:Nat->Option Node} {S:Nat->Option Nat} {gs:Array Goroutine} {w:World} {t:Trace} {q:Nat->Nat} (h:Co E W0 J z M S gs w t q)(c:Nat):partners (gs.setIfInBounds 0 ph) c true=[]:=by
 refine partners_nil fun j g hj=>?_;rcases getElem?_stand gs 0 j g hj with⟨rfl,rfl⟩|⟨hjk,hj⟩;·rfl
 ·rcases h.status hj with h1|h1|⟨e,_⟩;·exact offersAt_of_not_blocked (by rw[h1];simp) _ _
  ·exact offersAt_of_not_blocked (by rw[h1];simp) _ _
  ·exact absurd e hjk
theorem ZnW(hG:E.Fine)(hsh:E.sh=true)(hJ:∀k j,J k=some j->Zch E j) {k:Nat} {j:Job} (hk:0<k)(hj:J k=some j)(hU:U k)(hV:∀v,j.V v->Zbh 8 v=true)(hst:∀{fa:Frame} {ca:List Frame} {w:World},Rel E n.sh n.bs n.B n.f n.cs n.l fa ca w->∃zz,stepG E.P true (G fa ca) w=.comm (G fa ca) #[rcase j.ch zz] true (.recv false) w #[])(kk:∀v,j.V v->KGo E W0 J (fun x=>U x/\x≠k) none Post {n with f:=n.f.finish v}):ZcR E W0 J U none Post n:=by intro M S gs w sl t q fa ca h;obtain⟨zz,hcomm⟩:=hst h.rel;obtain⟨s0,h0⟩:=h.node;have hlt0:0<gs.size:=(Zuo.1 h.gs0).1;have hcomm':stepG E.P (0==0) (G fa ca) w=.comm (G fa ca) #[rcase j.ch zz] true (.recv false) w #[]:=hcomm;cases hS:S k with
 |some p=>
  obtain⟨v,hv,hc,_,_⟩:=h.co.chanS k j p hj hS;have hrunT:=crowd_recv_buf (P:=E.P) (sl:=sl) (shape:=.recv false) h.gs0 hcomm' hc (by simp) (h.co.offers_send j.ch);rw[Zdr]at hrunT;simp only[Array.empty_append]at hrunT;have hC':=h.co.take hsh h0 h.gs0 h.q0 hj hS (hV v hv) hc (fn:=(G fa ca).frame.fn) (pos:=(G fa ca).frame.place);have hmk:M k=none:=(h.co.excl k p hS).1;refine⟨_,_,_,_,hrunT,kk v hv (fa:=fa.finish v) (ca:=ca) ⟨hC',by rw[Zb0];exact h.tree,fun i m hi hm=>?_,fun x hx=>?_,⟨s0,upd_same _ _ _⟩,?_,h.q0,?_,(by intro c hc;cases hc),fun k' j' hj'=>?_⟩⟩;·rw[upd_ne _ _ (by omega)]at hm;exact h.halts i m hi hm
  ·rw[upd_ne _ _ (show x≠0 by omega)];by_cases e:x=k;·subst e;rw[upd_same,hmk];simp
   ·rw[upd_ne _ _ e,h.un x hx];simp[e]
  ·exact Zux hlt0
  ·obtain⟨fa',ca',g,g1,g2,g3⟩:=hC'.live 0 _ (upd_same _ _ _);rw[Zux hlt0]at g1;rcases g2 with⟨_,g2⟩|⟨g2,_⟩;case inr=>omega
   have e:=(Zxh g1).trans g2;have e2:fa.finish v=fa'/\ca=ca':=by simp only[Zby,G,Goroutine.mk.injEq,and_true]at e;exact e
   obtain⟨rfl,rfl⟩:=e2;exact g3
  ·obtain⟨g1,g2⟩:=h.jlt k' j' hj';exact⟨by simpa using g1,by simpa [World.setChan] using g2⟩|none=>
  have hmk:M k≠none:=by
   rcases(h.un k hk).1 hU with x|x;·exact x
   ·exact absurd hS x
  obtain⟨m,hm⟩:∃m,M k=some m:=by cases e:M k with
   |none=>exact absurd e hmk|some m=>exact⟨m,rfl⟩
  let Stop:Frame->List Frame->World->Prop:=fun f cs _=>cs≠[]/\∀c,f.mode≠.panicking c;have hHS:Halts Stop:=⟨fun f cs l h=>h,fun f cs l t d h=>h⟩;have hst0:Stop n.f n.cs n.l:=by refine⟨?_,h.rel.st.head.noPanic.1⟩;have:=h.rel.st;intro e;rw[e]at this;cases this with|cons _ _ _ _ _ _ hs=>cases hs
  have hC1:=Zt h Stop;have hT1:W E (upd M 0 (some {n with stop:=Stop})):=by have:=h.tree.add (LG.stop n.f n.cs n.l hst0) (upd_same _ _ _) n.sh n.bs n.B;rwa [Zb0]at this
  have hmk1:upd M 0 (some {n with stop:=Stop}) k=some m:=by rw[upd_ne _ _ (by omega)];exact hm
  have hC2:=hC1.park (upd_same _ _ _) h.gs0 h.q0 hk hj hmk1 zz;have hc:=h.co.chanM k j m hj hm;have hrunT:=crowd_waits (P:=E.P) (sl:=sl) (shape:=.recv false) h.gs0 hcomm' (by
   intro cc hcc;obtain rfl:cc=rcase j.ch zz:=by simpa using hcc
   exact ways_recv_none hc (h.co.offers_send j.ch));rw[Zdr]at hrunT;refine⟨_,_,_,_,hrunT,?_⟩;rw[Zud];refine Zg5 (U:=U) hG hsh hJ hT1 hC2 (fun i m' hi=>?_) (fun x hx=>?_) (by intro _ _ _ _ _ _ _ _ _ _ e;cases e) ?_
  ·rcases upd_some hi with⟨_,rfl⟩|⟨h1,hi⟩;·exact hHS
   ·exact h.halts i m' (Zw4 h1) hi
  ·rw[upd_ne _ _ (by omega)];exact h.un x hx
  ·intro M' S' gs' w' sl' t' q' n1 v zz' k' j' hz hj' hv hn1 hSm hC' hW' h0' hmk' hU' hsz hwsz;have hjj:j'.ch=j.ch:=by simp only[Zs.park.injEq]at hz;exact hz.1.symm
   have hkk:k'=k:=h.co.one k' k j' j hj' hj hjj;subst hkk;rw[hj]at hj';cases hj';rw[upd_same]at hn1;cases hn1;obtain⟨fa',ca',g,g1,g2,g3⟩:=hC'.live 0 _ h0';rcases g2 with⟨hq0,g2⟩|⟨g2,_⟩;case inr=>omega
   have e:g=G fa' ca':=g2;subst e;refine kk v hv ⟨hC',hW',fun i m' hi hm'=>?_,fun x hx=>?_,⟨_,h0'⟩,g1,hq0,g3,(by intro c hc;cases hc),fun k2 j2 hj2=>?_⟩;·obtain⟨m1,q1,_,_,q4,_⟩:=hSm.node i m' (by rw[upd_ne _ _ (by omega)];exact hm');rw[upd_ne _ _ (by omega)]at q1;rw[q4];exact h.halts i m1 hi q1
   ·obtain⟨u1,u2⟩:=hU' x hx;constructor;·rintro⟨a1,a2⟩;cases e1:M' x with|some _=>exact .inl (by simp)|none=>cases e2:S' x with
      |some _=>exact .inr (by simp)|none=>
       rcases u1 e2 e1 with y|y;·exact absurd a1 y
       ·exact absurd y a2
    ·exact u2
   ·obtain⟨g4,g5⟩:=h.jlt k2 j2 hj2;exact⟨by rw[hsz];simpa using g4,ZwS g5 hwsz⟩
end
section
variable {E:Env} {W0:World} {J:Nat->Option Job} {U:Nat->Prop} {Ch:Option Nat} {Post:Value->World->Prop} {n:Node}
theorem ZnX(hsh:E.sh=true)(hst:∀{fa:Frame} {ca:List Frame} {w:World},Rel E n.sh n.bs n.B n.f n.cs n.l fa ca w->stepG E.P true (G fa ca) w=.go (G (fa.finish (.chan (some w.heap.size))) ca) (w.alloc (.chan 1 #[] false 0 0 false)) #[])(kk:∀c,W0.heap.size<=c->KGo E W0 J U (some c) Post {n with f:=n.f.finish (.chan (some c))}):ZcR E W0 J U none Post n:=by
 intro M S gs w sl t q fa ca h;obtain⟨s0,h0⟩:=h.node;have hlt0:0<gs.size:=(Zuo.1 h.gs0).1;have hs:stepG E.P (0==0) (G fa ca) w=_:=hst h.rel;have hrunT:=runT_crowd_go (P:=E.P) (sl:=sl) (i:=0) h.gs0 hs;rw[Zdr]at hrunT;have hC':=h.co.made (w':=w.alloc (.chan 1 #[] false 0 0 false)) hsh h0 h.gs0 h.q0 (VR.chan (some w.heap.size)) rfl ⟨rfl,rfl,rfl⟩;have hsz:(w.alloc (.chan 1 #[] false 0 0 false)).heap.size=w.heap.size+1:=by simp
 refine⟨_,_,_,_,hrunT,?_⟩;rw[Zud];refine kk w.heap.size h.co.keep.1 (fa:=fa.finish (.chan (some w.heap.size))) (ca:=ca) ⟨hC',by rw[Zb0];exact h.tree,fun i m hi hm=>?_,fun x hx=>?_,⟨s0,upd_same _ _ _⟩,?_,h.q0,?_,fun c hc=>?_,fun k' j' hj'=>?_⟩;·rw[upd_ne _ _ (by omega)]at hm;exact h.halts i m hi hm
 ·rw[upd_ne _ _ (show x≠0 by omega)];exact h.un x hx
 ·exact Zux (by simpa using hlt0)
 ·have h2:Rel E n.sh n.bs n.B n.f n.cs n.l fa ca (w.alloc (.chan 1 #[] false 0 0 false)):=Zcv hsh h.rel (by rw[hsz];omega) fun b x hb=>by have:=(Zcu h.rel hb).1;show (w.heap.push _)[x]?=_;rw[Zut this,Zum this]
  exact h2.fin (VR.chan _)
 ·obtain rfl:=Zxh hc;refine⟨?_,h.co.keep.1,fun k j hj e=>?_⟩;·show (w.heap.push _)[w.heap.size]?=_;simp
  ·have:=(h.jlt k j hj).2;omega
 ·obtain⟨g1,g2⟩:=h.jlt k' j' hj';exact⟨by simpa using g1,by rw[hsz];omega⟩
theorem ZnY{c:Nat} {jb:Job} (hc:jb.ch=c) {nK:Node} (hns:nK.stop=jb.stop)(hnb:nK.bs=jb.bs)(hH:Halts jb.stop)(hL:LG E jb.stop nK.f nK.cs nK.l)(hB:∀b x,nK.B b x->nK.sh b/\∃b',n.B b' x/\n.sh b')(hst:∀{fa:Frame} {ca:List Frame} {w:World},Rel E n.sh n.bs n.B n.f n.cs n.l fa ca w->∃child fc cc,stepG E.P true (G fa ca) w=.spawn (G (fa.finish undef) ca) child w #[]/\child.status=.running/\(∀w,stepG E.P false child w=.go (G fc cc) w #[])/\Rel E nK.sh nK.bs nK.B nK.f nK.cs nK.l fc cc w)(kk:∀K,0<K->J K=none->KGo E W0 (upd J K (some jb)) (fun x=>U x∨x=K) none Post {n with f:=n.f.finish undef}):ZcR E W0 J U (some c) Post n:=by
 intro M S gs w sl t q fa ca h;obtain⟨s0,h0⟩:=h.node;have hlt0:0<gs.size:=(Zuo.1 h.gs0).1;obtain⟨child,fc,cc,hs,hcr,hcs,hR⟩:=hst h.rel;obtain⟨p1,p2,p3⟩:=h.pend c rfl;have hs':stepG E.P (0==0) (G fa ca) w=_:=hs;have hrunT:=runT_crowd_spawn (P:=E.P) (sl:=sl) (i:=0) h.gs0 hs';rw[Zdr]at hrunT;have hJK:J gs.size=none:=by cases e:J gs.size with|none=>rfl|some j=>exact absurd (h.jlt _ j e).1 (ZwR _)
 have hC':=h.co.spawn h0 h.gs0 h.q0 hJK hnb hns (by rw[hc];exact p1) (fun k j hj=>by rw[hc];exact p3 k j hj) (by rw[hc];exact p2) hcr hcs hR hB (fn:=(G fa ca).frame.fn) (fn':=child.frame.fn) (pos:=(G fa ca).frame.place);have hMK:M gs.size=none:=by cases e:M gs.size with
  |none=>rfl|some m=>obtain⟨_,_,_,g1,_⟩:=h.co.live _ m e;exact absurd (Zuo.1 g1).1 (ZwR _)
 have hSK:S gs.size=none:=by cases e:S gs.size with|none=>rfl|some p=>obtain⟨j,hj⟩:=h.co.job gs.size hlt0 (.inr (by rw[e];simp));rw[hJK]at hj;cases hj
 have hK0:gs.size≠0:=by omega
 refine⟨_,_,_,_,hrunT,kk gs.size hlt0 hJK (fa:=fa.finish undef) (ca:=ca) ⟨hC',?_,fun i m hi hm=>?_,fun x hx=>?_,⟨s0,?_⟩,?_,?_,h.rel.fin undefR,(by intro c hc;cases hc),fun k' j' hj'=>?_⟩⟩;·rw[Zdu _ hK0,Zb0];have:=h.tree.add hL (i:=gs.size) (by rw[upd_ne _ _ hK0];exact hMK) nK.sh nK.bs nK.B;rw[<-hns]at this;exact this
 ·rcases upd_some hm with⟨rfl,rfl⟩|⟨_,hm⟩;·rw[hns];exact hH
  ·rw[upd_ne _ _ (by omega)]at hm;exact h.halts i m hi hm
 ·by_cases e:x=gs.size;·subst e;rw[upd_same];simp
  ·rw[upd_ne _ _ e,upd_ne _ _ (by omega)];simp only[e,or_false];exact h.un x hx
 ·rw[upd_ne _ _ (fun e=>hK0 e.symm),upd_same]
 ·rw[Zus,if_neg (by simpa using fun e=>hK0 e.symm),Zux hlt0]
 ·rw[upd_ne _ _ (fun e=>hK0 e.symm)];exact h.q0
 ·rcases upd_some hj' with⟨rfl,rfl⟩|⟨_,hj'⟩;·refine⟨by simp,?_⟩;rw[hc];exact(Zuo.1 p1).1
  ·obtain⟨g1,g2⟩:=h.jlt k' j' hj';exact⟨by simp;omega,g2⟩
theorem ZnZ{n':Node} (hR:∀{fa:Frame} {ca:List Frame} {w:World},Rel E n.sh n.bs n.B n.f n.cs n.l fa ca w->Rel E n'.sh n'.bs n'.B n'.f n'.cs n'.l fa ca w)(hB:∀b' x,n'.B b' x->∃b,n.B b x/\(n.sh b->n'.sh b'))(k:KGo E W0 J U Ch Post n'):KGo E W0 J U Ch Post n:=by intro M S gs w sl t q fa ca h;obtain⟨s0,h0⟩:=h.node;exact k ⟨h.co.renode h0 h.gs0 h.q0 (hR h.rel) hB,by rw[Zb0];exact h.tree,fun i m hi hm=>by rw[upd_ne _ _ (by omega)]at hm;exact h.halts i m hi hm,fun x hx=>by rw[upd_ne _ _ (by omega)];exact h.un x hx,⟨n'.stop,upd_same _ _ _⟩,h.gs0,h.q0,hR h.rel,h.pend,h.jlt⟩
theorem Zn0{n':Node} (hR:∀{fa:Frame} {ca:List Frame} {w:World},Rel E n.sh n.bs n.B n.f n.cs n.l fa ca w->Rel E n'.sh n'.bs n'.B n'.f n'.cs n'.l fa ca w)(hB:∀b' x,n'.B b' x->∃b,n.B b x/\(n.sh b->n'.sh b'))(k:ZcR E W0 J U Ch Post n'):ZcR E W0 J U Ch Post n:=by intro M S gs w sl t q fa ca h;obtain⟨s0,h0⟩:=h.node;exact k ⟨h.co.renode h0 h.gs0 h.q0 (hR h.rel) hB,by rw[Zb0];exact h.tree,fun i m hi hm=>by rw[upd_ne _ _ (by omega)]at hm;exact h.halts i m hi hm,fun x hx=>by rw[upd_ne _ _ (by omega)];exact h.un x hx,⟨n'.stop,upd_same _ _ _⟩,h.gs0,h.q0,hR h.rel,h.pend,h.jlt⟩
theorem Zn1{w:World} {gs:Array Goroutine} {sl:Option (Nat×Nat)} {t:Trace} {q:Nat->Nat} {fa:Frame} {ca:List Frame} (h0:gs[0]?=some (G fa ca))(hL:Leavers E.P t gs q)(hP:Past (fun _=>False) w.heap.size t)(hR:Rel E n.sh n.bs n.B n.f n.cs n.l fa ca w)(hB:∀b x,n.B b x->n.sh b)(k:KGo E w (fun _=>none) (fun _=>False) none Post n):Fin E.P Post gs w sl t:=by
 have hlt0:0<gs.size:=(Zuo.1 h0).1;refine k (M:=upd (fun _=>none) 0 (some n)) (S:=fun _=>none) (q:=upd q 0 0) (fa:=fa) (ca:=ca) ⟨⟨fun i m hi=>?_,fun i g hi hm hg=>?_,fun i hi=>?_,by rw[upd_same];simp,fun i j m m' b c x hij hi hj hb hc=>?_,⟨hP.clean,hP.seen,fun i a ha hm j m hj=>?_,fun i a ha hm=>?_⟩,(by intro k j m hj;cases hj),(by intro k j p hj;cases hj),fun k hk hm=>?_,(by intro k k' j j' hj;cases hj),(by intro k j hj;cases hj),(by intro k p hp;cases hp),(by intro c zz hz;cases hz),(by intro k j m hk hj;cases hj),fun i m b x hi hb hx=>?_,⟨ZwO _,fun _ _=>rfl⟩,⟨rfl,rfl,rfl⟩⟩,?_,fun i m hi hm=>?_,fun x hx=>?_,⟨n.stop,upd_same _ _ _⟩,h0,upd_same _ _ _,hR,(by intro c hc;cases hc),(by intro k j hj;cases hj)⟩
 ·rcases upd_some hi with⟨rfl,rfl⟩|⟨_,hi⟩;·exact⟨fa,ca,G fa ca,h0,.inl ⟨upd_same _ _ _,rfl⟩,hR⟩
  ·cases hi
 ·rw[upd_ne _ _ (by omega)];exact hL.old i g hi hg
 ·by_cases e:i=0;·subst e;exact hP.hears
  ·rcases hi with hi|hi;·rw[upd_ne _ _ e]at hi;exact absurd rfl hi
   ·exact hL.above i hi
 ·rcases upd_some hi with⟨e1,_⟩|⟨_,hi⟩
  ·rcases upd_some hj with⟨e2,_⟩|⟨_,hj⟩;·omega
   ·cases hj
  ·cases hi
 ·rcases upd_some hj with⟨rfl,rfl⟩|⟨_,hj⟩
  ·rcases hP.known i a ha hm with x|x;·exact .inl x
   ·exact x.1.elim
  ·cases hj
 ·rcases hP.known i a ha hm with x|x;·exact .inl x
  ·exact x.1.elim
 ·rw[upd_ne _ _ (by omega)]at hm;rcases hm with x|x<;>exact absurd rfl x
 ·rcases upd_some hi with⟨rfl,rfl⟩|⟨_,hi⟩;·exact hB b x hb
  ·cases hi
 ·rw[Zb0,Zg4 _ _ _ rfl];exact W.empty
 ·rw[upd_ne _ _ (by omega)]at hm;cases hm
 ·rw[upd_ne _ _ (by omega)];simp
theorem Zn2(k:∀{w:World} {gs:Array Goroutine} {sl:Option (Nat×Nat)} {t:Trace} {q:Nat->Nat} {fa:Frame} {ca:List Frame},gs[0]?=some (G fa ca)->Leavers E.P t gs q->Past (fun _=>False) w.heap.size t->Rel E n.sh n.bs n.B n.f n.cs n.l fa ca w->W0.heap.size<=w.heap.size->(∀x,x<W0.heap.size->w.heap[x]?=W0.heap[x]?)->w.os=W0.os/\w.output=W0.output/\w.tape=W0.tape->ZfI E.P Post gs w sl t 0)(hU:∀x,0<x->¬U x):ZcR E W0 J U Ch Post n:=by
 intro M S gs w sl t q fa ca h;obtain⟨s0,h0⟩:=h.node;have hM:∀i,0<i->M i=none/\S i=none:=by
  intro i hi;have:=fun y=>hU i hi ((h.un i hi).2 y);constructor;·cases e:M i with
   |none=>rfl|some _=>exact absurd (.inl (by rw[e];simp)) this
  ·cases e:S i with|none=>rfl|some _=>exact absurd (.inr (by rw[e];simp)) this
 have hkn:∀i a,touchAt t i=some a->a.loc.isMemory=true->Knows t 0 i:=by
  intro i a ha hm;rcases h.co.tr.hand i a ha hm with x|⟨k,m,h1,h2⟩|⟨k,p,h1,h2⟩;·exact x
  ·by_cases e:k=0;·subst e;exact h2
   ·rw[(hM k (by omega)).1]at h1;cases h1
  ·have:=(h.co.excl k p h1).2;rw[(hM k this).2]at h1;cases h1
 refine k h.gs0 ⟨fun i g hi hg=>h.co.old i g hi (hM i hi).1 hg,fun j hj=>h.co.deaf j (.inr hj)⟩ ⟨h.co.tr.clean,fun i a ha hm=>.inl (hkn i a ha hm),fun i g hg hne hc=>?_,h.co.deaf 0 (.inl (by rw[h0];simp)),h.co.tr.seen⟩ h.rel h.co.keep.1 h.co.keep.2 h.co.same;obtain⟨x,hx,hxm,_⟩:=hc;obtain⟨p,z,h1,h2,h3⟩:=hkn i x hx hxm;refine⟨p,by simp[Trace.g?,h1,h2],?_⟩;rcases h3 with rfl|h3
 ·exfalso;have:z.g=g:=by simpa [Trace.g?,h1] using hg
  exact hne (this.symm.trans h2)
 ·exact h3
end
end Go.Twin
namespace Go.Twin
open Go.Conc
section
variable {E:Env} {Stop:Frame->List Frame->World->Prop}
theorem LG.re(hS:Halts Stop) {f:Frame} {cs:List Frame} {l:World} (h:LG E Stop f cs l)(t:Nat->Question->Nat)(d:Nat):LG E Stop f cs (l.re t d):=by cases h with|stop f cs l h=>exact .stop _ _ _ (hS.tape _ _ _ t d h)|step f cs l hc hg hs=>exact .step _ _ _ hc (fun t' d'=>hg t' d') fun t' d'=>hs t' d'
variable {b:Frame} {a:Act} {k:List Item} {cs:List Frame} {l l':World}
theorem Zdv(hS:Halts Stop) {f f':Frame} {cs':List Frame} (hc:f.mode=.run->Chk E f)(h:∀w,stepG E.P true (G f cs) w=.go (G f' cs') w #[])(k:LG E Stop f' cs' l):LG E Stop f cs l:=LG.one hc (W:=fun t d=>l.re t d) (es:=fun _ _=>#[]) (fun t d=>h _) fun t d=>k.re hS t d
theorem Zaa(hS:Halts Stop) {x y:Code} (h:LG E Stop (b.at a (.code x::.code y::k)) cs l):LG E Stop (b.at a (.code (.seq x y)::k)) cs l:=Zdv hS (fun _=>trivial) (fun w=>stepG_seq) h
theorem Za5(hS:Halts Stop) {id:Nat} {ops:Array Oper} (h:LG E Stop (b.at a (.inRegion ops (List.range ops.size)::k)) cs l):LG E Stop (b.at a (.code (.region id ops false)::k)) cs l:=Zdv hS (fun _=>trivial) (fun w=>stepG_region) h
theorem Za6(hS:Halts Stop) {ops:Array Oper} (h:LG E Stop (b.at a k) cs l):LG E Stop (b.at a (.inRegion ops []::k)) cs l:=Zdv hS (fun _=>trivial) (fun w=>stepG_region_end) h
theorem Zg6(hS:Halts Stop) {c:Operand} {x y:Code} {t:Bool} (hc:E.operand c=true)(h:a.eval c=.bool t)(h2:LG E Stop (b.at a (.code (if t then x else y)::k)) cs l):LG E Stop (b.at a (.code (.cond c x y)::k)) cs l:=Zdv hS (fun _=>hc) (fun w=>stepG_cond h) h2
theorem Zjg(hS:Halts Stop) (h:LG E Stop (b.at a k) cs l):LG E Stop (b.at a (.code .skip::k)) cs l:=Zdv hS (fun _=>trivial) (fun w=>stepG_skip) h
theorem Zn3(hS:Halts Stop) (h:LG E Stop {b.at a (.code .ret::k)with mode:=.returning} cs l):LG E Stop (b.at a (.code .ret::k)) cs l:=Zdv hS (fun _=>trivial) (fun w=>stepG_ret') h
variable {ops:Array Oper} {i:Nat} {rest:List Nat} {o:Oper}
theorem Zci{g:FuncId} {args:Array Value} (hS:Halts Stop)(ho:ops[i]?=some o)(hw:Region.wanted o (yielded ops a.tmps)=true)(hk:b.kind≠.early)(hop:E.op o.op=true)(hr:∀w,(execOp a.eval o).run E.P w=.ok (.enter g args) w) (h:LG E Stop (Frame.enter E.P g args .normal) (b.at a (.inRegion ops (i::rest)::k)::cs) l):LG E Stop (b.at a (.inRegion ops (i::rest)::k)) cs l:=LG.one (W:=fun t d=>l.re t d) (fun _ o' ho'=>by rw[ho]at ho';cases ho';exact hop) (fun t d=>stepG_enter ho hw hk (hr _)) fun t d=>h.re hS t d
theorem Zn4{fn:Func} {todo:List Item} {c:Frame} {v:Value} (hS:Halts Stop)(hn:b.kind=.normal)(hd:a.defers=[])(hf:E.P.funcs[b.fn]?=some fn)(hr:∀w,(results fn a.tmps).run E.P w=.ok v w)(he:∀w,(results fn a.tmps).events E.P w #[]=#[])(h:LG E Stop (c.finish v) cs l):LG E Stop {b.at a todo with mode:=.returning} (c::cs) l:=Zdv hS (fun hm=>by cases hm) (fun w=>stepG_leave hn hd hf (hr w) (he w)) h
end
section
variable {E:Env} {B:Blk}
theorem FR.at_eq {f fa:Frame} (h:FR E B f fa) (hm:f.mode=.run) (hr:f.roundOf=none):fa=fa.at ⟨fa.tmps,fa.defers⟩ fa.todo:=by
 have h1:fa.mode=.run:=by
  rcases h.mode with⟨_,x⟩|⟨x,_⟩;·exact x
  ·rw[hm]at x;cases x
 have h2:fa.roundOf=none:=by
  rcases h.round with⟨_,x⟩|⟨l,l',x,_⟩;·exact x
  ·rw[hr]at x;cases x
 obtain⟨fn,tm,td,ds,md,kd,rd⟩:=fa;dsimp only at h1 h2;subst h1 h2;rfl
theorem FR.noEarly{f fa:Frame} (h:FR E B f fa):fa.kind≠.early:=by rcases h.kind.2 with x|⟨_,x⟩<;>rw[x]<;>simp
theorem FR.region{f fa:Frame} (h:FR E B f fa) {ops:Array Oper} {td:List Nat} {k:List Item} (ht:f.todo=.inRegion ops td::k):∃k',fa.todo=.inRegion ops td::k'/\KR E B k k':=by have hk:=h.todo;rw[ht]at hk;generalize fa.todo=x at hk |-;cases hk with|cons y y' k k' hy hs=>cases hy with|inRegion ops td ho=>exact⟨k',rfl,hs⟩
theorem FR.oper {f fa:Frame} (h:FR E B f fa) (hm:f.mode=.run) (hr:f.roundOf=none) {ops:Array Oper} {i:Nat} {rest:List Nat} {k:List Item} (ht:f.todo=.inRegion ops (i::rest)::k):∃k',fa=fa.at ⟨fa.tmps,fa.defers⟩ (.inRegion ops (i::rest)::k')/\KR E B k k':=by obtain⟨k',h1,h2⟩:=h.region ht;have h3:=h.at_eq hm hr;rw[h1]at h3;exact⟨k',h3,h2⟩
end
def bot(P:Program):Frame:={(default:Frame)with fn:=P.funcs.size,defers:=[],mode:=.panicking [goexitEntry]}
def ZaO:Nat->Value->Bool|0,_=>false|n+1,v=>match v with|.bool _|.int ..|.string _|.pointer none|.slice none ..|.nilFunc|.nilIface|.chan none=>true|.iface _ v=>ZaO n v|.agg xs=>xs.all (ZaO n)| .tuple xs => xs.size != 0 && xs.all (ZaO n)|_=>false
theorem Zd2:∀(n:Nat)(v:Value),ZaO n v=true->Zbh n v=true|0,v,h=>by simp[ZaO]at h|n+1,v,h=>by unfold ZaO at h;unfold Zbh;split at h<;>first|rfl|exact Zd2 n _ h|(rw[Zub]at h |-;exact fun x hx=>Zd2 n x (h x hx))|(rw[ZuM,Zub]at h;rw[Zub];exact fun x hx=>Zd2 n x (h.2 x hx))|cases h
section
variable {E:Env} {B:Blk}
theorem Zi:∀(n:Nat){v v':Value},ZaO n v=true->VR E B v v'->v=v'|0,v,v',h,_=>by simp[ZaO]at h|n+1,v,v',h,hv=>by cases hv with|iface t x x' hx=>have h1:ZaO n x=true:=h;rw[Zi n h1 hx]|agg xs xs' hx hxs=>have h1:xs.all (ZaO n)=true:=h;rw[Zub]at h1;congr 1;exact Array.ext hx fun i h2 h3=>Zi n (h1 _ (Array.getElem_mem h2)) (hxs i _ _ (Zum h2) (Zum h3))|tuple xs xs' hx hxs=>have h1 : (xs.size != 0 && xs.all (ZaO n)) = true := h;rw[ZuM,Zub]at h1;congr 1;exact Array.ext hx fun i h2 h3=>Zi n (h1.2 _ (Array.getElem_mem h2)) (hxs i _ _ (Zum h2) (Zum h3))|ptr a a' ha=>cases h|slice a a' l c ha=>cases h|slice0 a hz=>rfl|func=>cases h|junk v hf hb=>simp[ZaO]at h|chan r=>rfl|_=>rfl
end
def ZbD(P:Program)(F ch:Nat)(V:Value->Prop)(f:Frame)(cs:List Frame)(l:World):Prop:=cs=[ZD P]/\∃(a:Act)(x y:Operand)(ops:Array Oper)(i:Nat)(o:Oper)(k:List Item),f=(base F).at a (.inRegion ops [i]::k)/\a.defers=[]/\ops[i]?=some o/\o.op=.send x y/\o.guard=none/\(∃n,x=.tmp n)/\(∃n,y=.tmp n)/\a.eval x=.chan (some ch)/\V (a.eval y)/\ZaO 8 (a.eval y)=true/\(k=[]∨∃r,k=.code .ret::r)
section
variable {E:Env}
theorem Zg7(P:Program)(F ch:Nat)(V:Value->Prop):Halts (ZbD P F ch V):=⟨fun f cs l h=>by obtain⟨rfl,a,x,y,ops,i,o,k,rfl,_⟩:=h;exact⟨by simp,fun c hc=>by cases hc⟩,fun f cs l t d h=>h⟩
theorem Zn5{P:Program} {F:Nat} {fn:Func} {fa:Frame} (hf:P.funcs[F]?=some fn)(hr:fn.results=#[])(hF:fa.fn=F)(hm:fa.mode=.returning)(hd:fa.defers=[])(hk:fa.kind=.normal∨fa.kind=.deferred):QuitsD P 2 0 (G fa [bot P]):=by
 obtain⟨f1,tm,td,ds,md,kd,rd⟩:=fa;dsimp only at hF hm hd hk;subst hF hm hd;refine QuitsD.ctl (g':=G (bot P) []) rfl (fun w=>?_) ?_
 ·rcases hk with rfl|rfl;·simp[G,stepG,unwind,doReturn,results,hf,hr,seen,GStep.after,bot,goexitEntry,Frame.finish];rfl
  ·simp[G,stepG,unwind,doReturn,results,hf,hr,seen,GStep.after,bot,goexitEntry]
 refine QuitsD.ctl (g':={G (bot P) []with status:=.finished}) rfl (fun w=>?_) ⟨rfl,rfl⟩;simp[G,stepG,unwind,bot,goexitEntry,Frame.catches];rfl
theorem Zg8{F ch:Nat} {V:Value->Prop} {fn:Func} (hf:E.P.funcs[F]?=some fn)(hr:fn.results=#[]):Zch E ⟨ch,V,[bot E.P],ZbD E.P F ch V⟩:=by intro sh B f cs l fa ca w hst hR;obtain⟨rfl,a,x,y,ops,i,o,k,rfl,hd,ho,hop,hg,⟨n,rfl⟩,⟨m,rfl⟩,hx,hV,hcl,hk⟩:=hst;have hst:=hR.st;cases hst with
 |cons _ _ _ _ _ _ hs=>cases hs with|cons _ _ _ _ _ _ h=>cases h
 |last _ _ hF hrd=>
  obtain⟨k',e,hkr⟩:=hF.oper rfl rfl rfl;have hA:=hF.tmps;have e1:(a.tmps.getD n undef)=.chan (some ch):=hx;have e2:(fa.tmps.getD n undef)=.chan (some ch):=by
   have:=hA.getD n (undefR (G:=E) (B:=B));have h3:VR E B (.chan (some ch)) (fa.tmps.getD n undef):=by rw[<-e1];exact this
   generalize fa.tmps.getD n undef=v at h3 |-;cases h3;rfl
  have e3:(fa.tmps.getD m undef)=a.tmps.getD m undef:=(Zi 8 hcl (hA.getD m (undefR (G:=E) (B:=B)))).symm;have hfd:fa.defers=[]:=by
   have:=hF.defers;have h4:DR B [] fa.defers:=by rw[<-hd];exact this
   generalize fa.defers=z at h4 |-;cases h4;rfl
  have hkind:fa.kind=.normal∨fa.kind=.deferred:=hF.kind.2.imp id fun z=>z.2;have hex:execOp (⟨fa.tmps,fa.defers⟩:Act).eval o=Pure.pure (.comm #[{chan:=(⟨fa.tmps,fa.defers⟩:Act).eval (.tmp n),send:=some ((⟨fa.tmps,fa.defers⟩:Act).eval (.tmp m)),zero:=.tuple #[]}] true .send):=by unfold execOp;rw[hop]
  have hrun:∀w,(execOp (⟨fa.tmps,fa.defers⟩:Act).eval o).run E.P w=.ok (.comm #[scase ch (a.eval (.tmp m)) (.tuple #[])] true .send) w:=by intro w;have e4:(⟨fa.tmps,fa.defers⟩:Act).eval (.tmp n)=.chan (some ch):=e2;have e5:(⟨fa.tmps,fa.defers⟩:Act).eval (.tmp m)=a.eval (.tmp m):=e3;rw[hex,e4,e5];rfl
  have hev:∀w,(execOp (⟨fa.tmps,fa.defers⟩:Act).eval o).events E.P w #[]=#[]:=by intro w;rw[hex];rfl
  have hw:Region.wanted o (yielded ops fa.tmps)=true:=by unfold Region.wanted;rw[hg]
  have hcomm:=stepG_comm (P:=E.P) (main:=false) (b:=fa) (a:=⟨fa.tmps,fa.defers⟩) (k:=k') (cs:=[bot E.P]) (rest:=[]) ho hw hF.noEarly (hrun w);rw[listed_none (hev w),<-e]at hcomm;refine⟨a.eval (.tmp m),.tuple #[],_,4,hV,Zd2 8 _ hcl,hcomm,?_⟩;rw[e];have e6:Go.Conc.served (G (fa.at ⟨fa.tmps,fa.defers⟩ (.inRegion ops [i]::k')) [bot E.P]) undef=G (fa.at ((⟨fa.tmps,fa.defers⟩:Act).put o.dst undef) (.inRegion ops []::k')) [bot E.P]:=by have:=Frame.finish_at fa ⟨fa.tmps,fa.defers⟩ (ops:=ops) (i:=i) (rest:=[]) (k:=k') undef;show G ((fa.at ⟨fa.tmps,fa.defers⟩ (.inRegion ops [i]::k')).finish undef) [bot E.P]=_;rw[this,ho];rfl
  rw[e6];refine QuitsD.ctl rfl (fun w=>stepG_region_end) ?_;have hq:∀td,QuitsD E.P 2 0 (G { fa.at ((⟨fa.tmps,fa.defers⟩:Act).put o.dst undef) td with mode:=.returning } [bot E.P]):=by
   intro td;refine Zn5 (F:=F) hf hr ?_ rfl ?_ hkind;·show fa.fn=F;exact hF.fn.symm
   ·show ((⟨fa.tmps,fa.defers⟩:Act).put o.dst undef).defers=[];cases o.dst<;>exact hfd
  rcases hk with rfl|⟨r,rfl⟩;·cases hkr;refine QuitsD.ctl rfl (fun w=>stepG_end) ?_;exact hq []
  ·cases hkr with|cons y y' k k2 hy hs=>cases hy with|code c hc=>refine QuitsD.ctl rfl (fun w=>stepG_ret') ?_;exact hq _
end
section
variable {E:Env} {n:Node} {fa:Frame} {ca:List Frame} {w:World}
theorem Zn6{ops:Array Oper} {i:Nat} {rest:List Nat} {o:Oper} {k:List Item} {x:Nat} {c:Nat} {zz:Value} (hm:n.f.mode=.run)(hr:n.f.roundOf=none)(ht:n.f.todo=.inRegion ops (i::rest)::k)(ho:ops[i]?=some o)(hg:o.guard=none)(hx:n.f.tmps.getD x undef=.chan (some c))(hrun:∀(ρ:Operand->Value)(w:World),(execOp ρ o).run E.P w=.ok (.comm #[{chan:=ρ (.tmp x),send:=none,zero:=zz}] true (.recv false)) w)(hev:∀(ρ:Operand->Value)(w:World),(execOp ρ o).events E.P w #[]=#[])(hR:Rel E n.sh n.bs n.B n.f n.cs n.l fa ca w):∃zz,stepG E.P true (G fa ca) w=.comm (G fa ca) #[rcase c zz] true (.recv false) w #[]:=by
 have hF:=hR.st.head;obtain⟨k',e,hkr⟩:=hF.oper hm hr ht;have e2:(⟨fa.tmps,fa.defers⟩:Act).eval (.tmp x)=.chan (some c):=by have h3:VR E n.B (n.f.tmps.getD x undef) (fa.tmps.getD x undef):=hF.tmps.getD x (undefR (G:=E) (B:=n.B));rw[hx]at h3;show fa.tmps.getD x undef=_;generalize fa.tmps.getD x undef=v at h3 |-;cases h3;rfl
 have hw:Region.wanted o (yielded ops fa.tmps)=true:=by unfold Region.wanted;rw[hg]
 have hcomm:=stepG_comm (P:=E.P) (main:=true) (b:=fa) (a:=⟨fa.tmps,fa.defers⟩) (k:=k') (cs:=ca) (rest:=rest) ho hw hF.noEarly (hrun _ w);rw[listed_none (hev _ w),<-e,e2]at hcomm;exact⟨zz,hcomm⟩
theorem Zn7{ops:Array Oper} {i:Nat} {rest:List Nat} {o:Oper} {k:List Item} (hm:n.f.mode=.run)(hr:n.f.roundOf=none)(ht:n.f.todo=.inRegion ops (i::rest)::k)(ho:ops[i]?=some o)(hg:o.guard=none)(hrun:∀(a:Act) (w:World),(execOp a.eval o).run E.P w=.ok (.value (.chan (some w.heap.size))) (w.alloc (.chan 1 #[] false 0 0 false))) (hev:∀(a:Act) (w:World),(execOp a.eval o).events E.P w #[]=#[])(hR:Rel E n.sh n.bs n.B n.f n.cs n.l fa ca w):stepG E.P true (G fa ca) w=.go (G (fa.finish (.chan (some w.heap.size))) ca) (w.alloc (.chan 1 #[] false 0 0 false)) #[]:=by
 have hF:=hR.st.head;obtain⟨k',e,hkr⟩:=hF.oper hm hr ht;have hw:Region.wanted o (yielded ops fa.tmps)=true:=by unfold Region.wanted;rw[hg]
 have hgo:=stepG_value (P:=E.P) (main:=true) (b:=fa) (a:=⟨fa.tmps,fa.defers⟩) (k:=k') (cs:=ca) (rest:=rest) ho hw hF.noEarly (hrun _ w);rw[listed_none (hev _ w)]at hgo;have e6:=Frame.finish_at fa ⟨fa.tmps,fa.defers⟩ ops i rest k' (.chan (some w.heap.size));rw[ho]at e6;have e7:fa.finish (.chan (some w.heap.size))=fa.at ((⟨fa.tmps,fa.defers⟩:Act).put o.dst (.chan (some w.heap.size))) (.inRegion ops rest::k'):=by rw[e];exact e6
 rw[e7,<-hgo,<-e]
def Blk.on(B:Blk)(X:Nat->Prop):Blk:=fun b x=>B b x/\X b
def idX(X:Nat->Prop):Blk:=fun b b'=>b=b'/\X b
theorem Zjh{X:Nat->Prop}:∀b b',idX X b b'->b=b':=fun b b' h=>h.1
theorem VR.on{S E:Env} (hsub:SubG S E E) {B:Blk} {X:Nat->Prop} {v v':Value} (h:VR E B v v'):VR S (idX X) v v->VR E (B.on X) v v':=by induction h with
 |bool b=>exact fun _=>.bool b|int k n=>exact fun _=>.int k n|string s=>exact fun _=>.string s|nilPtr=>exact fun _=>.nilPtr|ptr a a' ha=>intro hs;cases ha with|mk b b' o s hb=>cases hs with|ptr _ _ h2=>cases h2 with|mk _ _ _ _ hx=>exact .ptr _ _ (.mk _ _ _ _ ⟨hb,hx.2⟩)
 |nilSlice l c=>exact fun _=>.nilSlice l c|slice a a' l c ha=>intro hs;cases ha with|mk b b' o s hb=>cases hs with
   |slice _ _ _ _ h2=>cases h2 with|mk _ _ _ _ hx=>exact .slice _ _ _ _ (.mk _ _ _ _ ⟨hb,hx.2⟩)
   |slice0 _ hz=>rw[hsub.s]at hz;cases hz
 |slice0 a hz=>rw[hsub.e]at hz;cases hz|func fn fn' xs xs' ys ys' hf hx hxs hy hys ih1 ih2=>intro hs;cases hs with|func _ _ _ _ _ _ h1 _ h2 _ h3=>refine .func _ _ _ _ _ _ ?_ hx (fun i u u' hu hu'=>ih1 i u u' hu hu' (h2 i u u hu hu)) hy fun i u u' hu hu'=>ih2 i u u' hu hu' (h3 i u u hu hu);cases hf with|func f hg=>exact .func f hg|yield a b hb=>cases h1 with|yield _ _ hl=>exact .yield _ _ ⟨hb,hl.2⟩
 |nilFunc=>exact fun _=>.nilFunc|iface t v v' _ ih=>intro hs;cases hs with|iface _ _ _ h2=>exact .iface _ _ _ (ih h2)
 |nilIface=>exact fun _=>.nilIface|chan r=>exact fun _=>.chan r|junk v hf hv=>exact fun _=>.junk v hf hv|agg xs xs' hx hxs ih=>intro hs;cases hs with|agg _ _ _ h2=>exact .agg _ _ hx fun i u u' hu hu'=>ih i u u' hu hu' (h2 i u u hu hu)
 |tuple xs xs' hx hxs ih=>intro hs;generalize hq:Value.tuple xs=q at hs;cases hs with|tuple _ _ _ h2=>cases hq;exact .tuple _ _ hx fun i u u' hu hu'=>ih i u u' hu hu' (h2 i u u hu hu)|junk _ _ _=>cases hq;exact .tuple _ _ hx fun i u u' hu hu'=>(by simp at hu)|_=>cases hq
theorem AR.on{S E:Env} (hsub:SubG S E E) {B:Blk} {X:Nat->Prop} {xs xs':Array Value} (h:AR E B xs xs')(hX:∀v∈xs,VR S (idX X) v v):AR E (B.on X) xs xs':=⟨h.size,fun i v v' hv hv'=>(h.at_ i v v' hv hv').on hsub (hX v (ZuD hv))⟩
def ZaY(S:Env)(X:Nat->Prop)(l:World):Prop:=∀b,X b->∃c T fz,l.heap[b]?=some (.cells c T fz)/\∀v∈c,VR S (idX X) v v
theorem Zu{S:Env} {X:Nat->Prop} {xs:Array Value} (h:∀v∈xs,VR S (idX X) v v):AR S (idX X) xs xs:=⟨rfl,fun i v v' hv hv'=>by rw[hv]at hv';cases hv';exact h v (ZuD hv)⟩
theorem Zn8{P:Program} {F:Nat} {fn:Func} {c:Code} (hf:P.funcs[F]?=some fn)(hb:fn.body=some c)(hx:(fn.name== "runtime.NumGoroutine")=false)(cap:Array Value)(w:World):stepG P false (born P { target:=.fn (.func F) cap,args:=#[] }) w=.go (G ((baseD F).at ⟨cap++Array.replicate (fn.ntmps-cap.size) undef,[]⟩ [.code c]) [bot P]) w #[]:=by
 have hx':¬fn.name= "runtime.NumGoroutine":=by simpa using hx
 simp[hx',born,stepG,unwind,callDeferred,invoke,callFunc,hf,hb,hx,seen,GStep.after,G,Frame.enter,Frame.at,baseD,bot,program,Sem.run,Sem.runT,Sem.run_bind]
end
section
variable {E:Env} {n:Node} {fa:Frame} {ca:List Frame} {w:World}
theorem Zn9{S:Env} (hsub:SubG S E E)(hdk:∀g,E.dark g=false)(hsh:E.sh=true)(hfree:E.free=true)(hgl:∀g,E.glob g=false) {ops:Array Oper} {i:Nat} {rest:List Nat} {o:Oper} {k:List Item} {x F:Nat} (hdf:E.dfr F=true) {fn:Func} {body:Code} {cap:Array Value} {X:Nat->Prop} (hm:n.f.mode=.run)(hr:n.f.roundOf=none)(ht:n.f.todo=.inRegion ops (i::rest)::k)(ho:ops[i]?=some o)(hg:o.guard=none)(hd:o.dst=none)(hx:n.f.tmps.getD x undef=.func (.func F) #[] cap)(hrun:∀(ρ:Operand->Value)(cap':Array Value)(w:World),ρ (.tmp x)=.func (.func F) #[] cap'->(execOp ρ o).run E.P w=.ok (.spawn {target:=.fn (.func F) cap',args:=#[]}) w/\(execOp ρ o).events E.P w #[]=#[])(hf:E.P.funcs[F]?=some fn)(hb:fn.body=some body)(hname:(fn.name== "runtime.NumGoroutine")=false)(hmk:Zag body=true)(hcap:∀v∈cap,VR S (idX X) v v)(hX:∀b,X b->n.sh b)(hcl:ZaY S X n.l)(hR:Rel E n.sh n.bs n.B n.f n.cs n.l fa ca w):∃child fc cc,stepG E.P true (G fa ca) w=.spawn (G (fa.finish undef) ca) child w #[]/\child.status=.running/\(∀w,stepG E.P false child w=.go (G fc cc) w #[])/\Rel E X [bot E.P] (n.B.on X) ((base F).at ⟨cap++Array.replicate (fn.ntmps-cap.size) undef,[]⟩ [.code body]) [ZD E.P] n.l fc cc w:=by
 have hF:=hR.st.head;obtain⟨k',e,hkr⟩:=hF.oper hm hr ht;have h3:VR E n.B (n.f.tmps.getD x undef) (fa.tmps.getD x undef):=hF.tmps.getD x (undefR (G:=E) (B:=n.B));rw[hx]at h3;have hw:Region.wanted o (yielded ops fa.tmps)=true:=by unfold Region.wanted;rw[hg]
 generalize hv:fa.tmps.getD x undef=v at h3;cases h3 with|func fn1 fn2 xs xs' ys ys' hfn hxs1 hxs2 hys1 hys2=>cases hfn with|func _ hgood=>
   obtain rfl:xs'=#[]:=Array.eq_empty_of_size_eq_zero hxs1.symm;have hA:AR E n.B cap ys':=⟨hys1,hys2⟩;obtain⟨r1,r2⟩:=hrun (⟨fa.tmps,fa.defers⟩:Act).eval ys' w hv;have hsp:=stepG_spawn (P:=E.P) (main:=true) (b:=fa) (a:=⟨fa.tmps,fa.defers⟩) (k:=k') (cs:=ca) (rest:=rest) ho hw hF.noEarly r1 rfl;rw[listed_none r2]at hsp;have e6:=Frame.finish_at fa ⟨fa.tmps,fa.defers⟩ ops i rest k' undef;rw[ho]at e6;have e7:fa.finish undef=fa.at ((⟨fa.tmps,fa.defers⟩:Act).put o.dst undef) (.inRegion ops rest::k'):=by rw[e];exact e6
   refine⟨_,_,_,?_,rfl,fun w=>Zn8 hf hb hname ys' w,⟨?_,?_,fun b hb=>let ⟨_,_,_,h1,_⟩:=hcl b hb;(Zuo.1 h1).1⟩⟩;·rw[e7,<-hsp,<-e]
   ·refine .last _ _ ⟨rfl,?_,.cons _ _ _ _ (.code _ ⟨hmk,fun h=>by rw[hfree]at h;cases h⟩) .nil,.nil,.inl ⟨rfl,rfl⟩,⟨rfl,.inr ⟨hdf,rfl⟩⟩,.inl ⟨rfl,rfl⟩⟩ rfl;show AR E (n.B.on X) (cap++Array.replicate _ undef) (ys'++Array.replicate _ undef);rw[hys1];exact(hA.on hsub hcap).append (AR.replicate _ undefR)
   ·obtain⟨w1,w2,w3,w4,w5,w6,w7,w8,w9,w10,w11⟩:=hR.wr;refine⟨fun b b' c' h1 h2=>w1 b b' c' h1.1 h2.1,fun b c b' h1 h2=>w2 b c b' h1.1 h2.1,fun b b' h1=>w3 b b' h1.1,fun b b' h1 h2=>absurd h1.2 h2,fun b b' h1 h2=>?_,fun _ _ x=>x.elim,fun g hg=>(by rw[hgl]at hg;cases hg),fun b b' h1=>w8 b b' h1.1,w9,fun hs=>(by rw[hsh]at hs;cases hs),fun g hg=>(by rw[hdk]at hg;cases hg)⟩;have x1:=hX b h2;obtain⟨c,T,fz,x3,x4⟩:=hcl b h2;obtain⟨c1,c2,T',f',y1,y2,y3⟩:=w5 b b' h1.1 x1;rw[x3]at y1;cases y1;exact⟨c,c2,T,f',x3,y2,y3.on hsub x4⟩
end
section
variable {l:World} {t:Nat->Question->Nat} {d:Nat}
theorem ZcS(a:Addr):(l.re t d).cell? a=l.cell? a:=rfl
theorem ZcT(a:Addr):(l.re t d).frozen? a=l.frozen? a:=rfl
theorem ZcU(b:Nat):(l.re t d).shape? b=l.shape? b:=rfl
theorem Zcj:(l.re t d).heap.size=l.heap.size:=rfl
theorem Zji:(l.re t d).heap=l.heap:=rfl
theorem ZcV(o:Obj):(l.re t d).alloc o=(l.alloc o).re t d:=rfl
theorem ZcW(a:Addr)(v:Value):(l.re t d).setCell a v=(l.setCell a v).re t d:=by unfold World.setCell World.re;rfl
end
section
variable {E:Env} {Stop:Frame->List Frame->World->Prop} {b:Frame} {a:Act} {k:List Item} {cs:List Frame} {l:World} {ops:Array Oper} {i:Nat} {rest:List Nat} {o:Oper}
theorem ZP(hS:Halts Stop)(ho:ops[i]?=some o)(hw:Region.wanted o (yielded ops a.tmps)=true)(hk:b.kind≠.early)(hop:E.op o.op=true)(h:∀t d (K:Result Next->Prop),(∀v W,LG E Stop (b.at (a.put o.dst v) (.inRegion ops rest::k)) cs W->K (.ok (.value v) (W.re t d)))->(∀W,LG E Stop (b.at (a.put o.dst undef) (.inRegion ops rest::k)) cs W->K (.ok .skip (W.re t d)))->K ((execOp a.eval o).run E.P (l.re t d))):LG E Stop (b.at a (.inRegion ops (i::rest)::k)) cs l:=by
 have key:=fun t d=>h t d (fun r=>(∃v W,r=.ok (.value v) W/\LG E Stop (b.at (a.put o.dst v) (.inRegion ops rest::k)) cs W)∨∃W,r=.ok .skip W/\LG E Stop (b.at (a.put o.dst undef) (.inRegion ops rest::k)) cs W) (fun v W hl=>.inl ⟨v,_,rfl,hl.re hS t d⟩) fun W hl=>.inr ⟨_,rfl,hl.re hS t d⟩;have key2:∀t d,∃f' l' es,stepG E.P true (G (b.at a (.inRegion ops (i::rest)::k)) cs) (l.re t d)=.go (G f' cs) l' es/\LG E Stop f' cs l':=by
  intro t d;rcases key t d with⟨v,W,h1,h2⟩|⟨W,h1,h2⟩;·exact⟨_,_,_,stepG_value ho hw hk h1,h2⟩
  ·exact⟨_,_,_,stepG_none ho hw hk h1,h2⟩
 refine .step _ _ _ (fun _ o' ho'=>by rw[ho]at ho';cases ho';exact hop) (fun t d=>?_) fun t d f' cs' l' es hst=>?_;·obtain⟨f',l',es,h1,_⟩:=key2 t d;exact⟨_,_,_,_,h1⟩
 ·obtain⟨f1,l1,es1,h1,h2⟩:=key2 t d;rw[h1]at hst;simp only[GStep.go.injEq,G,Goroutine.mk.injEq,and_true]at hst;obtain⟨⟨rfl,rfl⟩,rfl,_⟩:=hst;exact h2
theorem Zjj(hsh:E.sh=true)(hgl:∀g,E.glob g=false)(hdk:∀g,E.dark g=false) {X:Nat->Prop} (hX:ZaY E X l)(hg:E.P.globals.size<=l.heap.size):WR E ⟨fun _=>False,fun _=>True⟩ (idX X) l l:=⟨fun b b' c' h1 h2=>by rw[<-h1.1,h2.1],fun b c b' h1 h2=>by rw[h1.1,h2.1],fun b b' h=>by obtain⟨rfl,h⟩:=h;obtain⟨c,T,fz,h1,_⟩:=hX b h;have:=(Zuo.1 h1).1;exact⟨this,this⟩,fun b b' h _=>by obtain⟨rfl,h⟩:=h;obtain⟨c,T,fz,h1,h2⟩:=hX b h;exact⟨_,_,h1,h1,.cells c c T fz (Zu h2)⟩,fun b b' _ h=>h.elim,fun i q _=>rfl,fun g h=>(by rw[hgl]at h;cases h),fun b b' h=>by rw[h.1],⟨hg,hg⟩,fun hs=>(by rw[hsh]at hs;cases hs),fun g hg=>(by rw[hdk]at hg;cases hg)⟩
end
section
variable {E:Env} {Stop:Frame->List Frame->World->Prop} {b:Frame} {a:Act} {k:List Item} {cs:List Frame} {l:World} {ops:Array Oper}
theorem Zjk{P:Program} {id:Nat} (w:World):stepG P true (G (b.at a (.code (.region id ops true)::k)) cs) w=.go (G (b.at a (.inRegion ops (Region.schedule (P.follows .mixedOrders) ops (w.tape w.drawn (.order b.fn id)))::k)) cs) {w with drawn:=w.drawn+1} #[]:=by simp[G,stepG,stepG.exec,Frame.at,choose,Sem.run,Question.forced,Question.cut]
theorem Zoa(hS:Halts Stop) {id:Nat} (h:∀n,LG E Stop (b.at a (.inRegion ops (Region.schedule (E.P.follows .mixedOrders) ops n)::k)) cs l):LG E Stop (b.at a (.code (.region id ops true)::k)) cs l:=by refine .step _ _ _ (fun _=>trivial) (fun t d=>⟨_,_,_,_,Zjk _⟩) fun t d f' cs' l' es hst=>?_;rw[Zjk]at hst;simp only[GStep.go.injEq,G,Goroutine.mk.injEq,and_true]at hst;obtain⟨⟨rfl,rfl⟩,rfl,_⟩:=hst;exact(h _).re hS t (d+1)
theorem Zg9(m:Region.Mode):∀(fuel t:Nat)(listed:Array Bool)(acc:List Nat),Region.linearise.go m ops fuel t listed acc=acc.reverse++Region.linearise.go m ops fuel t listed []
 |0,t,listed,acc=>by simp[Region.linearise.go]|fuel+1,t,listed,acc=>by
  unfold Region.linearise.go;dsimp only;split;·rename_i i hi;rw[Zg9 m fuel _ _ (i::acc),Zg9 m fuel _ _ [i]];simp
  ·simp
def ready(ops:Array Oper)(listed:Array Bool):List Nat:=(List.range ops.size).filter fun i=>!listed.getD i true&&((ops[i]?).map (·.after.all fun e=>!Region.binds .any e||listed.getD e.on false)).getD false
theorem Zob(fuel t:Nat) (listed:Array Bool):Region.linearise.go .any ops (fuel+1) t listed []=match (ready ops listed)[t%(ready ops listed).length]? with|some i=>Region.linearise.go .any ops fuel (t / (ready ops listed).length) (listed.setIfInBounds i true) [i]|none=>[]:=rfl
theorem go_cases(fuel t:Nat)(listed:Array Bool):Region.linearise.go .any ops (fuel+1) t listed []=[]/\ready ops listed=[]∨∃i t',i∈ready ops listed/\Region.linearise.go .any ops (fuel+1) t listed []=i::Region.linearise.go .any ops fuel t' (listed.setIfInBounds i true) []:=by rw[Zob];generalize ready ops listed=L;cases h:L[t%L.length]? with
 |none=>refine .inl ⟨rfl,?_⟩;cases L with
  |nil=>rfl|cons x xs=>rw[ZvN]at h;have:=Nat.mod_lt t (show 0<(x::xs).length by simp);omega
 |some i=>refine .inr ⟨i,t / L.length,Zwn h,?_⟩;dsimp only;rw[Zg9];rfl
theorem Zoc{p q:Nat->Bool} {x:Nat} {L:List Nat} (hqp:∀j,q j=true->p j=true)(hx:x∈L)(hp:p x=true)(hq:q x=false):L.countP q<L.countP p:=by induction L with
 |nil=>cases hx|cons y L ih=>
  have hle:L.countP q<=L.countP p:=List.countP_mono_left fun j _=>hqp j;rw[List.countP_cons,List.countP_cons];rcases Zwi.1 hx with rfl|hx;·simp[hp,hq];omega
  ·have:=ih hx;have:(if q y=true then 1 else 0)<=(if p y=true then 1 else 0):=by
    by_cases h1:q y=true;·simp[h1,hqp y h1]
    ·simp[h1]
   omega
theorem Zod(hm:E.P.follows .mixedOrders=true)(I:Array Bool->Act->World->Prop)(hstep:∀listed a l i rest,I listed a l->i∈ready ops listed->(ready ops (listed.setIfInBounds i true)=[]->rest=[])->(∀a' l',I (listed.setIfInBounds i true) a' l'->LG E Stop (b.at a' (.inRegion ops rest::k)) cs l')->LG E Stop (b.at a (.inRegion ops (i::rest)::k)) cs l)(hne:∀listed a l,I listed a l->ready ops listed≠[])(hcnt:∀listed a l,I listed a l->0<(List.range ops.size).countP fun j=>!listed.getD j true)(n:Nat)(h0:I (Array.replicate ops.size false) a l):LG E Stop (b.at a (.inRegion ops (Region.schedule (E.P.follows .mixedOrders) ops n)::k)) cs l:=by
 have e:Region.schedule (E.P.follows .mixedOrders) ops n=Region.linearise.go .any ops ops.size n (Array.replicate ops.size false) []:=by rw[hm];rfl
 rw[e];have key:∀(fuel n:Nat)(listed:Array Bool)(a:Act)(l:World),((List.range ops.size).countP fun j=>!listed.getD j true)<=fuel->I listed a l->LG E Stop (b.at a (.inRegion ops (Region.linearise.go .any ops fuel n listed [])::k)) cs l:=by intro fuel;induction fuel with|zero=>intro n listed a l hc hI;have:=hcnt listed a l hI;omega|succ fuel ih=>
   intro n listed a l hc hI;rcases go_cases (ops:=ops) fuel n listed with⟨_,h2⟩|⟨i,t',h1,h2⟩;·exact absurd h2 (hne listed a l hI)
   ·rw[h2];refine hstep listed a l i _ hI h1 (fun hr=>?_) fun a' l' hI'=>ih t' _ a' l' ?_ hI';·cases fuel with|zero=>rfl|succ fuel=>
      rcases go_cases (ops:=ops) fuel t' (listed.setIfInBounds i true)with⟨h3,_⟩|⟨j,t2,h3,_⟩;·exact h3
      ·rw[hr]at h3;cases h3
    ·
     have hi:i∈List.range ops.size/\listed.getD i true=false:=by have:=Zwk.1 h1;refine⟨this.1,?_⟩;have h4:=this.2;simp only[ZuM,ZuT]at h4;exact h4.1
     have hlt:(List.range ops.size).countP (fun j=>!(listed.setIfInBounds i true).getD j true)<(List.range ops.size).countP fun j=>!listed.getD j true:=by
      refine Zoc (x:=i) (fun j hj=>?_) hi.1 (by simp[hi.2]) ?_
      ·revert hj;rw[Zuj,Zuj,Zuv];split
       ·split;·simp
        ·rename_i h5 h6;subst h5;rw[Zun (by omega)];simp
       ·exact id
      ·rw[Zuj,Zuv];split;·split<;>simp
       ·rename_i h;exact absurd rfl h
     omega
 refine key ops.size n _ a l ?_ h0;exact ZwP (List.countP_le_length) (by simp)
end
section
variable {E1 S E2:Env} {B:Blk} {X:Nat->Prop}
theorem VR.on'(hsub:SubG S E1 E2)(hJ:E2.junk=true) {v v':Value} (h:VR E1 B v v'):VR S (idX X) v v->VR E2 (B.on X) v v':=by induction h with
 |bool b=>exact fun _=>.bool b|int k n=>exact fun _=>.int k n|string s=>exact fun _=>.string s|nilPtr=>exact fun _=>.nilPtr|ptr a a' ha=>intro hs;cases ha with|mk b b' o s hb=>cases hs with|ptr _ _ h2=>cases h2 with|mk _ _ _ _ hx=>exact .ptr _ _ (.mk _ _ _ _ ⟨hb,hx.2⟩)
 |nilSlice l c=>exact fun _=>.nilSlice l c|slice a a' l c ha=>intro hs;cases ha with|mk b b' o s hb=>cases hs with
   |slice _ _ _ _ h2=>cases h2 with|mk _ _ _ _ hx=>exact .slice _ _ _ _ (.mk _ _ _ _ ⟨hb,hx.2⟩)
   |slice0 _ hz=>rw[hsub.s]at hz;cases hz
 |slice0 a hz=>rw[hsub.e]at hz;cases hz|func fn fn' xs xs' ys ys' hf hx hxs hy hys ih1 ih2=>intro hs;cases hs with|func _ _ _ _ _ _ h1 _ h2 _ h3=>refine .func _ _ _ _ _ _ ?_ hx (fun i u u' hu hu'=>ih1 i u u' hu hu' (h2 i u u hu hu)) hy fun i u u' hu hu'=>ih2 i u u' hu hu' (h3 i u u hu hu);cases hf with
   |func f hg=>cases h1 with|func _ hg2=>exact .func f (hsub.good f hg2)
   |yield a b hb=>cases h1 with|yield _ _ hl=>exact .yield _ _ ⟨hb,hl.2⟩
 |nilFunc=>exact fun _=>.nilFunc|iface t v v' _ ih=>intro hs;cases hs with|iface _ _ _ h2=>exact .iface _ _ _ (ih h2)
 |nilIface=>exact fun _=>.nilIface|chan r=>exact fun _=>.chan r|junk v hf hv=>exact fun _=>.junk v hJ hv|agg xs xs' hx hxs ih=>intro hs;cases hs with|agg _ _ _ h2=>exact .agg _ _ hx fun i u u' hu hu'=>ih i u u' hu hu' (h2 i u u hu hu)
 |tuple xs xs' hx hxs ih=>intro hs;generalize hq:Value.tuple xs=q at hs;cases hs with|tuple _ _ _ h2=>cases hq;exact .tuple _ _ hx fun i u u' hu hu'=>ih i u u' hu hu' (h2 i u u hu hu)|junk _ _ _=>cases hq;exact .tuple _ _ hx fun i u u' hu hu'=>(by simp at hu)|_=>cases hq
theorem AR.on'(hsub:SubG S E1 E2)(hJ:E2.junk=true) {xs xs':Array Value} (h:AR E1 B xs xs')(hX:∀v∈xs,VR S (idX X) v v):AR E2 (B.on X) xs xs':=⟨h.size,fun i v v' hv hv'=>(h.at_ i v v' hv hv').on' hsub hJ (hX v (ZuD hv))⟩
theorem Zcw(S:Env)(X:Nat->Prop) {v:Value} (hb:bare v=true):∃u,VR S (idX X) u u/\(VR S (idX X) v v->u=v)/\∀(E1 E2:Env)(B:Blk)(v':Value),SubG S E1 E2->E2.junk=true->VR E1 B v v'->VR E2 (B.on X) u v':=by
 by_cases hn:VR S (idX X) v v;·exact⟨v,hn,fun _=>rfl,fun E1 E2 B v' hs hJ h=>VR.on' hs hJ h hn⟩
 ·exact⟨.tuple #[],undefR,fun h=>absurd h hn,fun E1 E2 B v' hs hJ h=>.junk v' hJ (by rw[<-h.bare];exact hb)⟩
theorem Zd3(S:Env)(X:Nat->Prop):∀(v:Value),∃u,VR S (idX X) u u/\(VR S (idX X) v v->u=v)/\∀(E1 E2:Env)(B:Blk)(v':Value),SubG S E1 E2->E2.junk=true->VR E1 B v v'->VR E2 (B.on X) u v'
 |.iface t v=>by
  obtain⟨u,h1,h2,h3⟩:=Zd3 S X v;refine⟨.iface t u,.iface _ _ _ h1,fun h=>?_,fun E1 E2 B v' hs hJ h=>?_⟩;·cases h with|iface _ _ _ h4=>rw[h2 h4]
  ·cases h with|iface _ _ v' h4=>exact .iface _ _ _ (h3 E1 E2 B v' hs hJ h4)
 |.agg xs=>by
  have hx:∀i:_root_.Fin xs.size,∃u,VR S (idX X) u u/\(VR S (idX X) xs[i] xs[i]->u=xs[i])/\∀(E1 E2:Env)(B:Blk)(v':Value),SubG S E1 E2->E2.junk=true->VR E1 B xs[i] v'->VR E2 (B.on X) u v':=fun i=>Zd3 S X xs[i];have hsz:(Array.ofFn fun i=>(hx i).choose).size=xs.size:=by simp
  have at_:∀(i:Nat)(u:Value),(Array.ofFn fun i=>(hx i).choose)[i]?=some u->∃v,xs[i]?=some v/\VR S (idX X) u u/\(VR S (idX X) v v->u=v)/\∀(E1 E2:Env)(B:Blk)(v':Value),SubG S E1 E2->E2.junk=true->VR E1 B v v'->VR E2 (B.on X) u v':=by
   intro i u hu;rw[Array.getElem?_ofFn]at hu;split at hu;·rename_i hi;cases hu;exact⟨xs[i],Zum hi,(hx ⟨i,hi⟩).choose_spec⟩
   ·cases hu
  refine⟨.agg (Array.ofFn fun i=>(hx i).choose),.agg _ _ rfl fun i u u' h1 h2=>?_,fun h=>?_,fun E1 E2 B v' hs hJ h=>?_⟩;·rw[h1]at h2;cases h2;obtain⟨v,g1,g2,_⟩:=at_ i u h1;exact g2
  ·cases h with|agg _ _ _ h4=>congr 1;refine Array.ext hsz fun i h1 h2=>?_;obtain⟨v,g1,g2,g3,_⟩:=at_ i _ (Zum h1);rw[Zum h2]at g1;cases g1;exact g3 (h4 i _ _ (Zum h2) (Zum h2))
  ·cases h with|agg _ xs' h4 h5=>refine .agg _ _ (hsz.trans h4) fun i u v' h1 h2=>?_;obtain⟨v,g1,g2,g3,g4⟩:=at_ i u h1;exact g4 E1 E2 B v' hs hJ (h5 i v v' g1 h2)
 |.bool b=>⟨.bool b,.bool b,fun _=>rfl,fun E1 E2 B v' hs hJ h=>by cases h;exact .bool b⟩|.int k n=>⟨.int k n,.int k n,fun _=>rfl,fun E1 E2 B v' hs hJ h=>by cases h;exact .int k n⟩|.string s=>⟨.string s,.string s,fun _=>rfl,fun E1 E2 B v' hs hJ h=>by cases h;exact .string s⟩|.nilIface=>⟨.nilIface,.nilIface,fun _=>rfl,fun E1 E2 B v' hs hJ h=>by cases h;exact .nilIface⟩|.float a b=>Zcw S X rfl|.complex a b c=>Zcw S X rfl|.pointer a=>Zcw S X rfl|.slice a b c=>Zcw S X rfl|.map a=>Zcw S X rfl|.chan a=>Zcw S X rfl|.func a b c=>Zcw S X rfl|.nilFunc=>Zcw S X rfl|.tuple a=>Zcw S X rfl termination_by v=>SizeOf.sizeOf v decreasing_by
 ·simp_wf;omega
 ·have:=Array.sizeOf_getElem xs i.1 i.2;simp_wf;have e:SizeOf.sizeOf xs[i]=SizeOf.sizeOf xs[i.1]:=rfl;omega
noncomputable def san(S:Env)(X:Nat->Prop)(v:Value):Value:=(Zd3 S X v).choose
theorem Zjl(S:Env) (X:Nat->Prop) (v:Value):VR S (idX X) (san S X v) (san S X v):=(Zd3 S X v).choose_spec.1
theorem Zoe{S:Env} {X:Nat->Prop} {v:Value} (h:VR S (idX X) v v):san S X v=v:=(Zd3 S X v).choose_spec.2.1 h
theorem Zjm(hsub:SubG S E1 E2) (hJ:E2.junk=true) {v v':Value} (h:VR E1 B v v'):VR E2 (B.on X) (san S X v) v':=(Zd3 S X v).choose_spec.2.2 E1 E2 B v' hsub hJ h
noncomputable def Zjn(S:Env)(X:Nat->Prop)(o:Obj):Obj:=match o with|.cells c T _=>.cells (c.map (san S X)) T (0,c.size+1)|o=>o
open Classical in noncomputable def sanW(S:Env)(X Y:Nat->Prop)(l:World):World:={l with heap:=l.heap.mapIdx fun b o=>if Y b then Zjn S X o else o}
section
variable {S:Env} {X Y:Nat->Prop} {l:World}
theorem ZbE:(sanW S X Y l).heap.size=l.heap.size:=by simp[sanW]
theorem ZeP{b:Nat} (h:¬Y b):(sanW S X Y l).heap[b]?=l.heap[b]?:=by simp only[sanW,Zuq];cases l.heap[b]? with|none=>rfl|some o=>simp[h]
theorem ZeQ{b:Nat} (h:Y b) {c:Array Value} {T:TypeId} {f:Nat×Nat} (hc:l.heap[b]?=some (.cells c T f)):(sanW S X Y l).heap[b]?=some (.cells (c.map (san S X)) T (0,(c.map (san S X)).size+1)):=by simp only[sanW,Zuq,hc];simp[h,Zjn]
theorem Zof{b:Nat} (hc:l.heap[b]?=some (.deferred none)):(sanW S X Y l).heap[b]?=some (.deferred none):=by simp only[sanW,Zuq,hc];simp only[Zxg];split<;>rfl
theorem Zd4{a:Addr} {v:Value} (hv:l.cell? a=some v)(hn:VR S (idX X) v v):(sanW S X Y l).cell? a=some v:=by
 by_cases h:Y a.block;·cases hc:l.heap[a.block]? with
  |none=>simp[World.cell?,hc]at hv|some o=>cases o with
   |cells c T f=>
    simp only[World.cell?,hc]at hv;simp only[World.cell?,ZeQ h hc];split at hv;·cases hv
    ·rename_i hs;rw[if_neg hs,Zup,hv,Zxg,Zoe hn]|_=>simp[World.cell?,hc]at hv
 ·have:=hv;unfold World.cell? at this |-;rw[ZeP h];exact this
end
def ZZ(B:Blk)(l:World)(b:Nat):Prop:=(∃b',B b b')/\∃c T f,l.heap[b]?=some (.cells c T f)
theorem Zog(hP:E2.P=E1.P)(hsub:SubG S E1 E2)(hJ:E2.junk=true)(hsh:E2.sh=true)(hgl:∀g,E2.glob g=false)(hdk:∀g,E2.dark g=false) {sh:Nat->Prop} {l w:World} (h:WR E1 ⟨sh,fun _=>False⟩ B l w):WR E2 ⟨ZZ B l,fun _=>False⟩ (B.on (ZZ B l)) (sanW S (ZZ B l) (ZZ B l) l) w/\ZaY S (ZZ B l) (sanW S (ZZ B l) (ZZ B l) l):=by
 refine⟨⟨fun b b' c' x y=>h.fn _ _ _ x.1 y.1,fun b c b' x y=>h.inj _ _ _ x.1 y.1,fun b b' x=>⟨by rw[ZbE];exact(h.dom _ _ x.1).1,(h.dom _ _ x.1).2⟩,fun b b' x hs=>absurd x.2 hs,fun b b' x _=>?_,fun _ _ x=>x.elim,fun g hg=>(by rw[hgl]at hg;cases hg),fun b b' x=>by rw[hP];exact h.low _ _ x.1,by rw[hP,ZbE];exact h.gsz,fun hs=>(by rw[hsh]at hs;cases hs),fun g hg=>(by rw[hdk]at hg;cases hg)⟩,fun b hX=>?_⟩
 ·obtain⟨_,c,T,f,hc⟩:=id x.2;have key:∃c' f',w.heap[b']?=some (.cells c' T f')/\AR E1 B c c':=by
   by_cases hs:sh b;·obtain⟨c1,c1',T1,f1,h1,h2,h3⟩:=h.shr b b' x.1 hs;rw[hc]at h1;cases h1;exact⟨_,_,h2,h3⟩
   ·obtain⟨o,o',h1,h2,h3⟩:=h.obj b b' x.1 hs;rw[hc]at h1;cases h1;cases h3 with|cells c c' T f h3=>exact⟨_,_,h2,h3⟩
  obtain⟨c',f',h2,h3⟩:=key;refine⟨_,c',T,f',ZeQ x.2 hc,h2,⟨by simp[h3.size],fun i u v' hu hv'=>?_⟩⟩;rw[Zup]at hu;obtain⟨v,hv,rfl⟩:=Zxf.1 hu;exact Zjm hsub hJ (h3.at_ i v v' hv hv')
 ·obtain⟨_,c,T,f,hc⟩:=id hX;refine⟨_,T,_,ZeQ hX hc,fun v hv=>?_⟩;obtain⟨x,_,rfl⟩:=Array.mem_map.1 hv;exact Zjl S _ x
theorem Zoh{E:Env} (hsub:SubG S E E)(hJ:E.junk=true)(hsh:E.sh=true) {Y:Nat->Prop} {sh:Nat->Prop} {bs:List Frame} {f fa:Frame} {cs ca:List Frame} {l w:World} (hY:∀b,Y b->∃c T f,l.heap[b]?=some (.cells c T f))(h:Rel E sh bs B f cs l fa ca w):Rel E (fun b=>sh b∨Y b) bs B f cs (sanW S (fun b=>X b∨Y b) Y l) fa ca w:=by
 have hon:(B.on fun b=>X b∨Y b).le B:=fun b b' x=>x.1;obtain⟨h1,⟨w1,w2,w3,w4,w5,w6,w7,w8,w9,w10,w11⟩,h3⟩:=h;refine⟨h1,⟨w1,w2,fun b b' hb=>by rw[ZbE];exact w3 b b' hb,fun b b' hb hs=>?_,fun b b' hb hs=>?_,fun _ _ x=>x.elim,w7,w8,by rw[ZbE];exact w9,fun hs=>(by rw[hsh]at hs;cases hs),fun g hg=>⟨Zof (w11 g hg).1,(w11 g hg).2⟩⟩,fun b hb=>?_⟩;·rw[ZeP (fun hy=>hs (.inr hy))];exact w4 b b' hb fun hx=>hs (.inl hx)
 ·by_cases hy:Y b
  ·obtain⟨c,T,f,hc⟩:=hY b hy;have key:∃c' f',w.heap[b']?=some (.cells c' T f')/\AR E B c c':=by
    by_cases hs:sh b;·obtain⟨c1,c1',T1,f1,h1,h2,h3⟩:=w5 b b' hb hs;rw[hc]at h1;cases h1;exact⟨_,_,h2,h3⟩
    ·obtain⟨o,o',h1,h2,h3⟩:=w4 b b' hb hs;rw[hc]at h1;cases h1;cases h3 with|cells c c' T f h3=>exact⟨_,_,h2,h3⟩
   obtain⟨c',f',h2,h3⟩:=key;refine⟨_,c',T,f',ZeQ hy hc,h2,⟨by simp[h3.size],fun i u v' hu hv'=>?_⟩⟩;rw[Zup]at hu;obtain⟨v,hv,rfl⟩:=Zxf.1 hu;exact(Zjm hsub hJ (h3.at_ i v v' hv hv')).mono hon
  ·rw[ZeP hy];exact w5 b b' hb (hs.resolve_right hy)
 ·rw[ZbE];rcases hb with hb|hb;·exact h3 b hb
  ·obtain⟨c,T,f,h⟩:=hY b hb;exact(Zuo.1 h).1
theorem Zha{Y:Nat->Prop} {l:World} (hX:ZaY S X l) (hY:∀b,Y b->∃c T f,l.heap[b]?=some (.cells c T f)):ZaY S (fun b=>X b∨Y b) (sanW S (fun b=>X b∨Y b) Y l):=by
 intro b hb;by_cases hy:Y b;·obtain⟨c,T,f,hc⟩:=hY b hy;refine⟨_,T,_,ZeQ hy hc,fun v hv=>?_⟩;obtain⟨x,_,rfl⟩:=Array.mem_map.1 hv;exact Zjl S _ x
 ·obtain⟨c,T,f,hc,hv⟩:=hX b (hb.resolve_right hy);exact⟨c,T,f,by rw[ZeP hy];exact hc,fun v h=>(hv v h).mono fun a b x=>⟨x.1,.inl x.2⟩⟩
theorem Zoi(hP:E2.P=E1.P)(hsub:SubG S E1 E2)(hJ:E2.junk=true)(hsh:E2.sh=true)(hfree:E2.free=true)(hgl:∀g,E2.glob g=false)(hdk:∀g,E2.dark g=false)(hdf:∀f,E1.dfr f=false) {sh:Nat->Prop} {l w:World} {bs':List Frame} {g:FuncId} {args:Array Value} {fn:Func} {body:Code} {cs:List Frame} {fa:Frame} {ca:List Frame} (cz:List Frame)(hf:E1.P.funcs[g]?=some fn)(hb:fn.body=some body)(hm:Zag body=true)(hn:∀v∈args,VR S (idX (ZZ B l)) v v)(h:Rel E1 sh bs' B (Frame.enter E1.P g args .normal) cs l fa ca w):ZaY S (ZZ B l) (sanW S (ZZ B l) (ZZ B l) l)/\Rel E2 (ZZ B l) cz (B.on (ZZ B l)) (Frame.enter E1.P g args .normal) [ZD E2.P] (sanW S (ZZ B l) (ZZ B l) l) fa cz w:=by
 obtain⟨h2,h3⟩:=Zog (S:=S) hP hsub hJ hsh hgl hdk h.wr;refine⟨h3,⟨?_,h2,fun b hb=>?_⟩⟩
 ·have hF:=h.st.head;refine .last _ _ ⟨hF.fn,?_,?_,?_,hF.mode,⟨hF.kind.1,hF.kind.2.imp id fun x=>(by have:=x.1;rw[hdf]at this;cases this)⟩,.inl ⟨rfl,?_⟩⟩ rfl
  ·refine hF.tmps.on' hsub hJ fun v hv=>?_;rcases ZuB.1 (show v∈args++Array.replicate _ undef from hv)with hv|hv;·exact hn v hv
   ·rw[(Array.mem_replicate.1 hv).2];exact undefR
  ·have hk:=hF.todo;have e:(Frame.enter E1.P g args .normal).todo=[.code body]:=by simp[Frame.enter,hf,hb]
   rw[e]at hk |-;generalize fa.todo=x at hk |-;cases hk with|cons y y' k k' hy hs=>cases hs;cases hy with|code c hc=>exact .cons _ _ _ _ (.code _ ⟨hm,fun hff=>by rw[hfree]at hff;cases hff⟩) .nil|mark=>exact absurd hm (by simp[Zag])
  ·have hd:=hF.defers;have e:(Frame.enter E1.P g args .normal).defers=[]:=rfl;rw[e]at hd |-;generalize fa.defers=x at hd |-;cases hd;exact .nil
  ·rcases hF.round with⟨_,x⟩|⟨_,_,x,_⟩;·exact x
   ·cases x
 ·obtain⟨c,T,fz,g1,_⟩:=h3 b hb;exact(Zuo.1 g1).1
end
structure Kept1 (w w':World):Prop where
 size:w.heap.size<=w'.heap.size
 heap:∀x,x<w.heap.size->w'.heap[x]?=w.heap[x]?
 os:w'.os=w.os
 output:w'.output=w.output
theorem Kept1.refl(w:World):Kept1 w w:=⟨ZwO _,fun _ _=>rfl,rfl,rfl⟩
theorem Kept1.trans{a b c:World} (h:Kept1 a b)(k:Kept1 b c):Kept1 a c:=⟨ZwP h.size k.size,fun x hx=>(k.heap x (ZwS hx h.size)).trans (h.heap x hx),k.os.trans h.os,k.output.trans h.output⟩
def ZcX(P:Program)(fa:Frame)(w:World)(R:Value->Prop):Prop:=∀{Post:Value->World->Prop} {c:Frame} {ca:List Frame} {gs:Array Goroutine} {sl:Option (Nat×Nat)} {t:Trace} {q:Nat->Nat},gs[0]?=some (G fa (c::ca))->Leavers P t gs q->Past (fun _=>False) w.heap.size t->(∀{v:Value} {w':World} {gs':Array Goroutine} {sl':Option (Nat×Nat)} {t':Trace} {q':Nat->Nat},R v->Kept1 w w'->gs'[0]?=some (G (c.finish v) ca)->Leavers P t' gs' q'->Past (fun _=>False) w'.heap.size t'->Fin P Post gs' w' sl' t')->Fin P Post gs w sl t
def pad(l:World)(n:Nat):World:={l with heap:=l.heap++Array.replicate n (.deferred none)}
theorem Zb8(l:World)(n:Nat):(pad l n).heap.size=l.heap.size+n:=by simp[pad]
theorem Zb9(l:World)(n:Nat) {b:Nat} (h:b<l.heap.size):(pad l n).heap[b]?=l.heap[b]?:=by simp[pad,Array.getElem?_append_left h]
structure OldOk (W:World)(OldB B:Blk)(w:World):Prop where
 kept:Kept1 W w
 old:∀b x,B b x->x<W.heap.size->OldB b x
section
variable (E:Env)(Post:Value->World->Prop)(W l0:World)(OldB:Blk)(sh:Nat->Prop)(bs':List Frame)
def Zjo(f:Frame)(cs:List Frame)(l:World):Prop:=∀{B:Blk} {fa:Frame} {ca:List Frame} {w:World} {gs:Array Goroutine} {sl:Option (Nat×Nat)} {t:Trace} {q:Nat->Nat},gs[0]?=some (G fa ca)->Leavers E.P t gs q->Past (fun _=>False) w.heap.size t->Rel E sh bs' B f cs l fa ca w->OldOk W OldB B w->Fin E.P Post gs w sl t
structure StopG (f:Frame)(cs:List Frame)(l:World):Prop where
 deep:cs≠[]
 calm:∀c,f.mode≠.panicking c
 keep:∀x,x<l0.heap.size->l.heap[x]?=l0.heap[x]?
 good:Zjo E Post W OldB sh bs' f cs l
end
section
variable {E:Env} {Post:Value->World->Prop} {W l0:World} {OldB:Blk} {sh:Nat->Prop} {bs':List Frame}
theorem Rel.re'{B:Blk} {f fa:Frame} {cs ca:List Frame} {l w:World} {t:Nat->Question->Nat} {d:Nat} (h:Rel E sh bs' B f cs (l.re t d) fa ca w):Rel E sh bs' B f cs l fa ca w:=⟨h.st,h.wr.retape rfl rfl rfl fun _ _ x=>x.elim,h.low⟩
theorem Zdw:Halts (StopG E Post W l0 OldB sh bs'):=⟨fun f cs l h=>⟨h.deep,h.calm⟩,fun f cs l t d h=>⟨h.deep,h.calm,h.keep,fun h0 hL hP hR hO=>h.good h0 hL hP hR.re' hO⟩⟩
theorem ZfJ(hG:E.Fine)(hold:∀b x,OldB b x->sh b∨(b=x/\x<l0.heap.size/\l0.heap[x]?=W.heap[x]?/\E.sh=false/\E.junk=false)) {f:Frame} {cs:List Frame} {l:World} (hL:LG E (StopG E Post W l0 OldB sh bs') f cs l):Zjo E Post W OldB sh bs' f cs l:=by
 intro B fa ca w gs sl t q h0 hLv hP hR hO;refine Zja hG Zdw hL h0 hLv hP hR ?_;intro B₁ f₁ cs₁ l₁ fa₁ ca₁ w₁ gs₁ sl₁ t₁ q₁ hst h0' _ hLv' hP' hR' hW;have hold':∀b x,B₁ b x->x<W.heap.size->OldB b x:=by
  intro b x hb hx;rcases hW.al b x hb with h|⟨_,h,_⟩;·exact hO.old b x h hx
  ·have:=hO.kept.size;omega
 refine hst.good h0' hLv' hP' hR' ⟨⟨ZwP hO.kept.size hW.size.1,fun x hx=>?_,hW.same.1.trans hO.kept.os,hW.same.2.trans hO.kept.output⟩,hold'⟩;by_cases hall:∀b,B b x->sh b;·rw[hW.keep x (ZwS hx hO.kept.size) hall];exact hO.kept.heap x hx
 ·obtain⟨b,hb⟩:=Classical.not_forall.1 hall;obtain⟨hb,hs⟩:=Classical.not_imp.1 hb;obtain⟨rfl,h1,h2,h3,h4⟩:=(hold b x (hO.old b x hb hx)).resolve_left hs;have hb1:=hW.le _ _ hb;obtain⟨o,o',g1,g2,g3⟩:=hR'.wr.obj _ _ hb1 hs;have e:=g3.eq h4 (hR'.wr.sh h3).2.2;subst e;rw[g2,<-g1,hst.keep _ h1,h2]
theorem Zjp{S:Side} {B:Blk} {l w w':World} {n:Nat} (hk:Kept1 w w')(hn:E.sh=false->l.heap.size+n=w'.heap.size)(hS:∀i,¬S.till i)(h:WR E S B l w):WR E S B (pad l n) w':=by
 refine⟨h.fn,h.inj,fun b b' hb=>⟨by rw[Zb8];have:=(h.dom b b' hb).1;omega,ZwS (h.dom b b' hb).2 hk.size⟩,fun b b' hb hs=>?_,fun b b' hb hs=>?_,fun i q hi=>absurd hi (hS _),h.glob,h.low,⟨by rw[Zb8];have:=h.gsz.1;omega,ZwP h.gsz.2 hk.size⟩,fun hs=>⟨(h.sh hs).1,by rw[Zb8];exact hn hs,(h.sh hs).2.2⟩,fun g hg=>⟨?_,(h.dark g hg).2⟩⟩;·rw[Zb9 l n (h.dom b b' hb).1,hk.heap b' (h.dom b b' hb).2];exact h.obj b b' hb hs
 ·rw[Zb9 l n (h.dom b b' hb).1,hk.heap b' (h.dom b b' hb).2];exact h.shr b b' hb hs
 ·have:=(h.dark g hg).1;rw[Zb9 l n (Zuo.1 this).1];exact this
theorem Zjq(hG:E.Fine)(hold:∀b x,OldB b x->sh b∨(b=x/\x<l0.heap.size/\l0.heap[x]?=W.heap[x]?/\E.sh=false/\E.junk=false)) {f c:Frame} {cs:List Frame} {l:World} {R:Value->Prop} (hcs:cs≠[])(hcalm:∀c,f.mode≠.panicking c)(hkeep:∀x,x<l0.heap.size->l.heap[x]?=l0.heap[x]?)(hph:∀{B:Blk} {fa:Frame} {ca:List Frame} {w:World},Rel E sh bs' B f (c::cs) l fa ca w->OldOk W OldB B w->ZcX E.P fa w R)(hR:∀v,R v->Zbh 8 v=true)(k:∀v n,R v->LG E (StopG E Post W l0 OldB sh bs') (c.finish v) cs (pad l n)):StopG E Post W l0 OldB sh bs' f (c::cs) l:=by
 refine⟨by simp,hcalm,hkeep,?_⟩;intro B fa ca w gs sl t q h0 hLv hP hRel hO;obtain⟨c',ca',rfl,hst⟩:∃c' ca',ca=c'::ca'/\ST E B [ZD E.P] bs' (c::cs) (c'::ca'):=by have:=hRel.st;cases this with
  |last _ _ _ _=>exact absurd rfl hcs|cons _ _ _ ca hf hk hs=>cases ca with
   |nil=>cases hs|cons c' ca'=>exact⟨c',ca',rfl,hs⟩
 refine hph hRel hO h0 hLv hP fun {v w' gs' sl' t' q'} hv hk h0' hL' hP'=>?_;refine ZfJ hG hold (k v (w'.heap.size-w.heap.size) hv) h0' hL' hP' ⟨hst.top (hst.head.finish (VR.closed 8 v (hR v hv))) (Blk.le_refl _) (ZcO _ _),Zjp hk (fun hs=>?_) (fun i h=>h) hRel.wr,fun b hb=>?_⟩ ⟨hO.kept.trans hk,hO.old⟩;·have:=(hRel.wr.sh hs).2.1;have:=hk.size;omega
 ·rw[Zb8];have:=hRel.low b hb;omega
theorem Zoj{P:Program} {Post:Value->World->Prop} {fa:Frame} {w:World} (h:∀{gs:Array Goroutine} {sl:Option (Nat×Nat)} {t:Trace} {q:Nat->Nat},gs[0]?=some (G fa [])->Leavers P t gs q->Past (fun _=>False) w.heap.size t->Fin P Post gs w sl t):Fin P Post #[G fa []] w none #[]:=h rfl (leavers_one P _) (past_nil.mono (Zxa _))
end
variable {E0:Env}
structure Self (E:Env)(sh:Nat->Prop)(B:Blk)(l:World):Prop where
 wr:WR E ⟨sh,fun _=>True⟩ B l l
 low:∀b,sh b->b<l.heap.size
 idn:∀b b',B b b'->b=b'
section
variable {E:Env} {sh:Nat->Prop} {B:Blk} {l:World}
theorem Self.re(h:Self E sh B l)(t:Nat->Question->Nat)(d:Nat):Self E sh B (l.re t d):=⟨h.wr.retape rfl rfl rfl fun _ _ _=>rfl,h.low,h.idn⟩
theorem Self.unre{t:Nat->Question->Nat} {d:Nat} (h:Self E sh B (l.re t d)):Self E sh B l:=⟨h.wr.retape rfl rfl rfl fun _ _ _=>rfl,h.low,h.idn⟩
theorem Self.pad(h:Self E sh B l)(n:Nat):Self E sh B (pad l n):=by
 obtain⟨⟨w1,w2,w3,w4,w5,w6,w7,w8,w9,w10,w11⟩,h2,h3⟩:=h;refine⟨⟨w1,w2,fun b b' hb=>?_,fun b b' hb hs=>?_,fun b b' hb hs=>?_,fun _ _ _=>rfl,w7,w8,?_,fun hs=>⟨(w10 hs).1,rfl,(w10 hs).2.2⟩,fun g hg=>⟨?_,(w11 g hg).2⟩⟩,fun b hb=>?_,h3⟩;·rw[Zb8];have:=w3 b b' hb;omega
 ·rw[Zb9 l n (w3 b b' hb).1,Zb9 l n (w3 b b' hb).2];exact w4 b b' hb hs
 ·rw[Zb9 l n (w3 b b' hb).1,Zb9 l n (w3 b b' hb).2];exact w5 b b' hb hs
 ·rw[Zb8];omega
 ·have:=(w11 g hg).1;rw[Zb9 l n (Zuo.1 this).1];exact this
 ·rw[Zb8];have:=h2 b hb;omega
theorem Zjr{a:Act} (h:Self E sh B l)(ha:AR E B a.tmps a.tmps):Ops E B a.eval a.eval:=by intro x hx;cases x with|tmp t=>exact ha.getD t undefR|const v=>exact VR.closed 8 v hx|global g=>exact .ptr _ _ (.mk _ _ _ _ (h.wr.glob g hx))|func f=>exact Zl (.func f hx) AR.empty AR.empty
theorem Zjs(hS:Self E sh B l) {α:Type} {Q:Blk->α->α->Prop} {s:Sem α} (h:SR E Q B s s) {t:Nat->Question->Nat} {d:Nat} {r:α} {w:World} (hr:s.run E.P (l.re t d)=.ok r w):∃B',B.le B'/\Self E sh B' w/\Q B' r r:=by
 have hb:=h.both (hS.re t d).wr hS.low fun _ _ _=>trivial;rw[hr]at hb;obtain⟨B',b,w',new,h1,h2,h3,h4⟩:=hb;cases h1;refine⟨B',h3.le,⟨h3.wr.retape rfl rfl rfl fun _ _ _=>rfl,fun b hb=>ZwS (hS.low b hb) h3.size.2.1,fun b b' hb=>?_⟩,h4⟩;rcases h3.al b b' hb with x|⟨x1,x2,x3⟩;·exact hS.idn _ _ x
 ·omega
theorem Zok(hG:E.Fine)(hS:Self E sh B l) {a:Act} (ha:AR E B a.tmps a.tmps) {o:Oper} (ho:E.op o.op=true) {t:Nat->Question->Nat} {d:Nat} {v:Value} {w:World} (hr:(execOp a.eval o).run E.P (l.re t d)=.ok (.value v) w):∃B',B.le B'/\Self E sh B' w/\VR E B' v v/\AR E B' (a.put o.dst v).tmps (a.put o.dst v).tmps:=by obtain⟨B',h1,h2,h3⟩:=Zjs hS (ZgV hG (Zjr hS ha) (fun _ _=>rfl) ho) hr;cases h3 with|value v v' hv=>refine⟨B',h1,h2,hv,?_⟩;cases o.dst with|none=>exact ha.mono h1|some x=>exact(ha.mono h1).set x hv
theorem Zol(hG:E.Fine)(hS:Self E sh B l) {a:Act} (ha:AR E B a.tmps a.tmps) {o:Oper} (ho:E.op o.op=true) {t:Nat->Question->Nat} {d:Nat} {w:World} (hr:(execOp a.eval o).run E.P (l.re t d)=.ok .skip w):∃B',B.le B'/\Self E sh B' w/\AR E B' (a.put o.dst undef).tmps (a.put o.dst undef).tmps:=by obtain⟨B',h1,h2,h3⟩:=Zjs hS (ZgV hG (Zjr hS ha) (fun _ _=>rfl) ho) hr;refine⟨B',h1,h2,?_⟩;cases o.dst with|none=>exact ha.mono h1|some x=>exact(ha.mono h1).set x undefR
end
def Env.run(E0:Env)(tab:Code):Env:=E0.wide E0.good false tab
theorem Zjt{E:Env} (h:Sub E0 E)(tab:Code):Sub (E0.run tab) E:=⟨h.P,h.glob,h.sh,h.nn,h.dark,fun x=>(by cases x),h.good,h.z0⟩
theorem ZeR(hJ:E0.junk=false)(tab:Code):Sub E0 (E0.run tab):=⟨rfl,rfl,rfl,rfl,rfl,fun h=>(by rw[hJ]at h;cases h),fun _ h=>h,fun h=>h⟩
theorem ZfK(tab:Code):Sub (E0.run tab) E0:=⟨rfl,rfl,rfl,rfl,rfl,fun h=>(by cases h),fun _ h=>h,fun h=>h⟩
section
variable {E0 E:Env} {sh:Nat->Prop} {B:Blk} {l:World} {Stop:Frame->List Frame->World->Prop} {b:Frame} {a:Act} {k:List Item} {cs:List Frame} {ops:Array Oper} {i:Nat} {rest:List Nat} {o:Oper}
theorem Zae(hS:Halts Stop)(hsub:Sub E0 E)(hG:E0.Fine)(hs:Self E0 sh B l)(ha:AR E0 B a.tmps a.tmps)(ho:ops[i]?=some o)(hw:Region.wanted o (yielded ops a.tmps)=true)(hk:b.kind≠.early)(hop:E0.op o.op=true)(h:∀t d (K:Result Next->Prop),(∀v W,(∀B',B.le B'->Self E0 sh B' W->AR E0 B' (a.put o.dst v).tmps (a.put o.dst v).tmps->LG E Stop (b.at (a.put o.dst v) (.inRegion ops rest::k)) cs W)->K (.ok (.value v) (W.re t d)))->(∀W,(∀B',B.le B'->Self E0 sh B' W->AR E0 B' (a.put o.dst undef).tmps (a.put o.dst undef).tmps->LG E Stop (b.at (a.put o.dst undef) (.inRegion ops rest::k)) cs W)->K (.ok .skip (W.re t d)))->K ((execOp a.eval o).run E0.P (l.re t d))):LG E Stop (b.at a (.inRegion ops (i::rest)::k)) cs l:=by
 refine ZP hS ho hw hk (hsub.op _ hop) fun t d K k1 k2=>?_;have key:=h t d (fun r=>(execOp a.eval o).run E0.P (l.re t d)=r->K r) (fun v W hl hr=>?_) (fun W hl hr=>?_) rfl;·rw[hsub.P];exact key
 ·obtain⟨B',h1,h2,h3,h4⟩:=Zok hG hs ha hop hr;exact k1 v W (hl B' h1 h2.unre h4)
 ·obtain⟨B',h1,h2,h3⟩:=Zol hG hs ha hop hr;exact k2 W (hl B' h1 h2.unre h3)
theorem Zju(hG:E0.Fine)(hF:Strict E0)(hGw:∀tab,(E0.run tab).Fine)(hsub:Sub E0 E) {tab:Code} {f fa c:Frame} {bs:List Frame} {R:Value->World->Prop} (hS:Self E0 sh B l)(hf:FR E0 B f f)(hfr:f.roundOf=none)(hfa:FR (E0.run tab) B f fa)(hR:∀v w t d,R v w->R v (w.re t d))(hc:∀t d,∃n fr w' v,runN E0.P n (lone f [ZD E0.P] (l.re t d))=.next (lone fr [ZD E0.P] w')/\fr.leaving E0.P w' (.returned v)/\R v w')(k:∀v l' B',R v l'->B.le B'->Self E0 sh B' l'->VR E0 B' v v->LG E Stop (c.finish v) bs l'):LG E Stop fa (c::bs) l:=by
 have hO:Own E0 sh [ZD E0.P] f [ZD E0.P] l B:=⟨.last _ _ hf hfr,hS.wr,hS.low,hS.idn⟩;have hL:LG E0 (Ret E0.P R) f [ZD E0.P] l:=ZeL (s:=⟨f,[ZD E0.P],l⟩) hG hF (Zd1 E0.P R) ⟨⟨B,hO⟩,fun t d=>by obtain⟨n,fr,w',v,h1,h2,h3⟩:=hc t d;exact⟨n,fr,_,w',h1,rfl,v,w'.tape,w'.drawn,h2,h3⟩⟩;have hL1:=hL.sub (ZeR hF.junk tab);have hO2:Own2 (E0.run tab) sh (c::bs) f [ZD E0.P] l fa (c::bs) B:=⟨.last _ _ hfa hfr,(ZeR hF.junk tab).wr hS.wr,hS.low,hS.idn⟩;have main:LG (E0.run tab) (fun f cs l=>LG E Stop f cs l) fa (c::bs) l:=by refine Zg2 (bs':=c::bs) (hGw tab) rfl (Zd1 E0.P R) hL1 hO2 ?_;rintro B₁ f₁ cs₁ l₁ fa₁ ca₁ ⟨rfl,v,t,d,hl,hr⟩ hle hO3;have hst:=hO3.st;cases hst with
  |cons f f' cs cs' hf _ hs=>cases hs with|cons _ _ _ _ _ _ h=>cases h
  |last _ _ hf hrd=>
   obtain⟨hm,hd,hk,fn,hfn,hrun⟩:=hl;have et:f₁.tmps=fa₁.tmps:=hf.tmps.eq (show (E0.run tab).junk=false from rfl) hO3.idn;have hA:=hf.tmps;rw[<-et]at hA;have hres:=SR.retape (E:=E0.run tab) rfl (ZeF fn hA) hO3.wr hO3.low hO3.idn (t:=t) (d:=d) (v:=v) hrun;have hl2:∀t' d',fa₁.leaving E0.P (l₁.re t' d') (.returned v):=by
    intro t' d';refine⟨?_,?_,(by
     rcases hf.kind.2 with h|⟨h,_⟩;·exact h
     ·have h2:E0.dfr f₁.fn=true:=h;rw[hF.dfr]at h2;cases h2),fn,hf.fn▸hfn,?_⟩
    ·rcases hf.mode with⟨h1,h2⟩|⟨h1,h2⟩;·rw[hm]at h1;cases h1
     ·exact h2
    ·have:=hf.defers;rw[hd]at this;generalize fa₁.defers=x at this |-;cases this;rfl
    ·have h:=(hres t' d').1;rw[<-et];exact h
   have hgo:∀t' d',∃es,stepG E0.P true (G fa₁ (c::bs)) (l₁.re t' d')=.go (G (c.finish v) bs) (l₁.re t' d') es:=fun t' d'=>Zjb (hl2 t' d');refine .step _ _ _ (fun hmr=>?_) (fun t' d'=>?_) fun t' d' g1 cs1 l1 es1 hst=>?_;·exfalso;have:=(hl2 t d).1;rw[hmr]at this;cases this
   ·obtain⟨es,h⟩:=hgo t' d';exact⟨_,_,_,_,h⟩
   ·obtain⟨es,h⟩:=hgo t' d';have h':stepG (E0.run tab).P true (G fa₁ (c::bs)) (l₁.re t' d')=.go (G (c.finish v) bs) (l₁.re t' d') es:=h;rw[h']at hst;simp only[GStep.go.injEq,G,Goroutine.mk.injEq,and_true]at hst;obtain⟨⟨rfl,rfl⟩,rfl,_⟩:=hst;obtain⟨B',h1,h2,h3,h4⟩:=(hres t' d').2;refine .stop _ _ _ (k v _ B' ?_ (Blk.le_trans hle h1) ⟨(ZfK tab).wr (h3.retape rfl rfl rfl fun _ _ _=>rfl),hO3.low,h2⟩ ((ZfK tab).vr h4));have:=hR _ _ t' d' hr;exact this
 exact(main.sub (Zjt hsub tab)).trans fun f cs l h=>h
theorem Zd5{E':Env} {F:Nat} (ha:AR E' B a.tmps a.tmps) (hd:a.defers=[]) {td td':List Item} (ht:KR E' B td td'):FR E' B ((base F).at a td) ((base F).at a td'):=⟨rfl,ha,ht,(by show DR B a.defers a.defers;rw[hd];exact .nil),.inl ⟨rfl,rfl⟩,⟨rfl,.inl rfl⟩,.inl ⟨rfl,rfl⟩⟩
theorem Zjv(hG:E0.Fine)(hF:Strict E0)(hGw:∀tab,(E0.run tab).Fine)(hsub:Sub E0 E) {g:FuncId} {args:Array Value} {R:Value->World->Prop} (hg:E0.good g=true)(hS:Self E0 sh B l)(ha:AR E0 B args args)(hR:∀v w t d,R v w->R v (w.re t d))(hc:∀t d,Calls E0.P g args (l.re t d) fun e w=>∃v,e=.returned v/\R v w) {c:Frame} {bs:List Frame} (k:∀v l' B',R v l'->B.le B'->Self E0 sh B' l'->VR E0 B' v v->LG E Stop (c.finish v) bs l'):LG E Stop (Frame.enter E0.P g args .normal) (c::bs) l:=by have hw:Sub E0 (E0.run (.refuse "#")):=ZeR hF.junk _;refine Zju (tab:=.refuse "#") (R:=R) hG hF hGw hsub hS (ZdZ hG hg ha) rfl (ZdZ (hGw _) hg (hw.ar ha)) hR (fun t d=>?_) k;obtain⟨e,w',fr,⟨v,rfl,hr⟩,⟨n,hn⟩,_,hl⟩:=hc t d [ZD E0.P];exact⟨n,fr,w',v,hn,hl,hr⟩
theorem Zjw(hH:Halts Stop)(hG:E0.Fine)(hF:Strict E0)(hGw:∀tab,(E0.run tab).Fine)(hsub:Sub E0 E) {g:FuncId} {args:Array Value} {R:Value->World->Prop} (hS:Self E0 sh B l)(htm:AR E0 B a.tmps a.tmps)(ho:ops[i]?=some o)(hw:Region.wanted o (yielded ops a.tmps)=true)(hk:b.kind≠.early)(hop:E0.op o.op=true)(hr:∀w,(execOp a.eval o).run E0.P w=.ok (.enter g args) w)(hg:E0.good g=true)(ha:AR E0 B args args)(hR:∀v w t d,R v w->R v (w.re t d))(hc:∀t d,Calls E0.P g args (l.re t d) fun e w=>∃v,e=.returned v/\R v w)(k':∀v l' B',R v l'->B.le B'->Self E0 sh B' l'->AR E0 B' (a.put o.dst v).tmps (a.put o.dst v).tmps->LG E Stop (b.at (a.put o.dst v) (.inRegion ops rest::k)) cs l'):LG E Stop (b.at a (.inRegion ops (i::rest)::k)) cs l:=by refine Zci hH ho hw hk (hsub.op _ hop) (fun w=>by rw[hsub.P];exact hr w) ?_;rw[hsub.P];refine Zjv hG hF hGw hsub hg hS ha hR hc fun v l' B' h1 h2 h3 h4=>?_;rw[Frame.finish_at,ho];refine k' v l' B' h1 h2 h3 ?_;show AR E0 B' (a.put o.dst v).tmps (a.put o.dst v).tmps;cases o.dst with|none=>exact htm.mono h2|some x=>exact(htm.mono h2).set x h4
theorem Zjx(hG:E0.Fine)(hF:Strict E0)(hGw:∀tab,(E0.run tab).Fine)(hsub:Sub E0 E) {F:Nat} {fn:Func} {x:Code} {R:Value->World->Prop} (hS:Self E0 sh B l)(ha:AR E0 B a.tmps a.tmps)(hd:a.defers=[])(hx:E0.code x=true)(hfn:E0.P.funcs[F]?=some fn)(hR:∀v w t d,R v w->R v (w.re t d))(hc:∀t d,x.wp E0.P (fun e a' w'=>(e=.ret∨e=.normal)/\a'.defers=[]/\∃v,(results fn a'.tmps).run E0.P w'=.ok v w'/\R v w') a (l.re t d)) {c:Frame} {bs:List Frame} (k:∀v l' B',R v l'->B.le B'->Self E0 sh B' l'->VR E0 B' v v->LG E Stop (c.finish v) bs l'):LG E Stop ((base F).at a [.code x]) (c::bs) l:=by
 have hw:Sub E0 (E0.run (.refuse "#")):=ZeR hF.junk _;refine Zju (tab:=.refuse "#") (R:=R) hG hF hGw hsub hS (Zd5 ha hd (.cons _ _ _ _ (.code _ (E0.ok_of hx)) .nil)) rfl (Zd5 (hw.ar ha) hd (.cons _ _ _ _ (.code _ ⟨ZbC x hx,fun h=>(by cases h)⟩) .nil)) hR (fun t d=>?_) k;obtain⟨e,a',w',⟨he,hd',v,hv,hr⟩,harr⟩:=hc t d (base F) [] [ZD E0.P];rcases he with rfl|rfl;·obtain⟨todo,n,hn⟩:=harr;exact⟨n,_,w',v,hn,⟨rfl,hd',rfl,fn,hfn,hv⟩,hr⟩
 ·obtain⟨n,hn⟩:=Steps.trans harr (.one step_end);exact⟨n,_,w',v,hn,⟨rfl,hd',rfl,fn,hfn,hv⟩,hr⟩
def Zjy(P:Program)(F:Nat)(R:Act->World->Prop)(f:Frame)(cs:List Frame)(l:World):Prop:=cs=[ZD P]/\∃a t d,f=(base F).at a [.code (.refuse "#")]/\a.defers=[]/\R a (l.re t d)
theorem ZbF(hG:E0.Fine)(hF:Strict E0)(hGw:∀tab,(E0.run tab).Fine)(hsub:Sub E0 E) {F:Nat} {x tail:Code} {R:Act->World->Prop} (hS:Self E0 sh B l)(ha:AR E0 B a.tmps a.tmps)(hd:a.defers=[])(hx:E0.code x=true)(hR:∀v w t d,R v w->R v (w.re t d))(hc:∀t d,x.wp E0.P (fun e a' w'=>e=.normal/\a'.defers=[]/\R a' w') a (l.re t d))(k':∀a' l' B',R a' l'->a'.defers=[]->B.le B'->Self E0 sh B' l'->AR E0 B' a'.tmps a'.tmps->LG E Stop ((base F).at a' [.code tail]) cs l'):LG E Stop ((base F).at a [.code x,.code tail]) cs l:=by
 have hw:Sub E0 (E0.run tail):=ZeR hF.junk _;have hmk:KR E0 B [.code (.refuse "#")] [.code (.refuse "#")]:=by have h:=KR.cons (E:=E0) (B:=B) _ _ _ _ .mark .nil;rw[hF.tab]at h;exact h
 have hO:Own E0 sh [ZD E0.P] ((base F).at a [.code x,.code (.refuse "#")]) [ZD E0.P] l B:=⟨.last _ _ (Zd5 ha hd (.cons _ _ _ _ (.code _ (E0.ok_of hx)) hmk)) rfl,hS.wr,hS.low,hS.idn⟩;have hH:Halts (Zjy E0.P F R):=⟨fun f cs l h=>by obtain⟨rfl,a,t,d,rfl,_⟩:=h;exact⟨by simp,fun c hc=>by cases hc⟩,fun f cs l t d h=>by obtain⟨h0,a,t',d',h1,h2,h3⟩:=h;exact⟨h0,a,t',d',h1,h2,h3⟩⟩;have hL:LG E0 (Zjy E0.P F R) ((base F).at a [.code x,.code (.refuse "#")]) [ZD E0.P] l:=ZeL (s:=⟨_,[ZD E0.P],l⟩) hG hF hH ⟨⟨B,hO⟩,fun t d=>by obtain⟨e,a',w',⟨rfl,hd',hr⟩,n,hn⟩:=hc t d (base F) [.code (.refuse "#")] [ZD E0.P];exact⟨n,_,_,w',hn,rfl,a',w'.tape,w'.drawn,rfl,hd',hr⟩⟩;have hL1:=hL.sub hw;have hO2:Own2 (E0.run tail) sh cs ((base F).at a [.code x,.code (.refuse "#")]) [ZD E0.P] l ((base F).at a [.code x,.code tail]) cs B:=⟨.last _ _ (Zd5 (hw.ar ha) hd (.cons _ _ _ _ (.code _ ⟨ZbC x hx,fun h=>(by cases h)⟩) (.cons _ _ _ _ .mark .nil))) rfl,hw.wr hS.wr,hS.low,hS.idn⟩;have main:LG (E0.run tail) (fun f cs l=>LG E Stop f cs l) ((base F).at a [.code x,.code tail]) cs l:=by refine Zg2 (bs':=cs) (hGw tail) rfl hH hL1 hO2 ?_;rintro B₁ f₁ cs₁ l₁ fa₁ ca₁ ⟨rfl,a',t,d,rfl,hd',hr⟩ hle hO3;have hst:=hO3.st;cases hst with
  |cons f f' cs cs' hf _ hs=>cases hs with|cons _ _ _ _ _ _ h=>cases h
  |last _ _ hf hrd=>
   have et:a'.tmps=fa₁.tmps:=hf.tmps.eq (show (E0.run tail).junk=false from rfl) hO3.idn;have hA:AR (E0.run tail) B₁ a'.tmps a'.tmps:=by have:=hf.tmps;rw[<-et]at this;exact this
   have e:fa₁=(base F).at a' [.code tail]:=by
    obtain⟨h1,h2,h3,h4,h5,h6,h7⟩:=hf;obtain⟨fn,tm,td,ds,md,kd,rd⟩:=fa₁;have e1:fn=F:=h1.symm;have e2:tm=a'.tmps:=et.symm;have e3:td=[.code tail]:=by have h3':KR (E0.run tail) B₁ [.code (.refuse "#")] td:=h3;cases h3' with|cons y y' k k' hy hs=>cases hs;cases hy with
      |code c hc=>exact absurd hc.1 (by simp[Zag])|mark=>rfl
    have e4:ds=a'.defers:=by have h4':DR B₁ a'.defers ds:=h4;rw[hd']at h4' |-;cases h4';rfl
    have e5:md=.run:=by
     rcases h5 with⟨_,x⟩|⟨x,_⟩;·exact x
     ·cases x
    have e6:kd=.normal:=by
     rcases h6.2 with x|⟨x,_⟩;·exact x
     ·have h2:E0.dfr F=true:=x;rw[hF.dfr]at h2;cases h2
    have e7:rd=none:=by
     rcases h7 with⟨_,x⟩|⟨_,_,x,_⟩;·exact x
     ·cases x
    subst e1 e2 e3 e4 e5 e6 e7;rfl
   rw[e];have hrr:R a' l₁:=by have:=hR _ _ l₁.tape l₁.drawn hr;exact this
   exact .stop _ _ _ (k' a' l₁ B₁ hrr hd' hle ⟨(ZfK tail).wr hO3.wr,hO3.low,hO3.idn⟩ ((ZfK tail).ar hA))
 exact(main.sub (Zjt hsub tail)).trans fun f cs l h=>h
theorem Zhb(hG:E0.Fine)(hF:Strict E0)(hsub:Sub E0 E) {F:Nat} {fn:Func} {x:Code} {R:Value->World->Prop} (hS:Self E0 sh B l)(ha:AR E0 B a.tmps a.tmps)(hd:a.defers=[])(hx:E0.code x=true)(hfn:E0.P.funcs[F]?=some fn)(hc:∀t d,x.wp E0.P (fun e a' w'=>(e=.ret∨e=.normal)/\a'.defers=[]/\∃v,(results fn a'.tmps).run E0.P w'=.ok v w'/\R v w') a (l.re t d))(k:∀f l',Ret E0.P R f [ZD E0.P] l'->f.fn=F->LG E Stop f [ZD E0.P] l'):LG E Stop ((base F).at a [.code x]) [ZD E0.P] l:=by
 have hO:Own E0 sh [ZD E0.P] ((base F).at a [.code x]) [ZD E0.P] l B:=⟨.last _ _ (Zd5 ha hd (.cons _ _ _ _ (.code _ (E0.ok_of hx)) .nil)) rfl,hS.wr,hS.low,hS.idn⟩;have hH:Halts (fun f cs l=>Ret E0.P R f cs l/\f.fn=F):=⟨fun f cs l h=>(Zd1 E0.P R).call f cs l h.1,fun f cs l t d h=>⟨(Zd1 E0.P R).tape f cs l t d h.1,h.2⟩⟩;have hL:LG E0 (fun f cs l=>Ret E0.P R f cs l/\f.fn=F) ((base F).at a [.code x]) [ZD E0.P] l:=ZeL (s:=⟨_,[ZD E0.P],l⟩) hG hF hH ⟨⟨B,hO⟩,fun t d=>by
  obtain⟨e,a',w',⟨he,hd',v,hv,hr⟩,harr⟩:=hc t d (base F) [] [ZD E0.P];rcases he with rfl|rfl;·obtain⟨todo,n,hn⟩:=harr;exact⟨n,_,_,w',hn,⟨rfl,v,w'.tape,w'.drawn,⟨rfl,hd',rfl,fn,hfn,hv⟩,hr⟩,rfl⟩
  ·obtain⟨n,hn⟩:=Steps.trans harr (.one step_end);exact⟨n,_,_,w',hn,⟨rfl,v,w'.tape,w'.drawn,⟨rfl,hd',rfl,fn,hfn,hv⟩,hr⟩,rfl⟩⟩;refine(hL.sub hsub).trans ?_;rintro f cs l ⟨⟨rfl,h⟩,hfn⟩;exact k f l ⟨rfl,h⟩ hfn
end
section
variable {G:Env} {B:Blk}
theorem Zjz:∀(n:Nat)(acc:ByteArray) {a a':Addr} {B:Blk},AddrR B a a'->SR G QE B (Extern.Bytes.loadBytes a n acc) (Extern.Bytes.loadBytes a' n acc)
 |0,acc,a,a',B,h=>Zx rfl|n+1,acc,a,a',B,h=>by
  unfold Extern.Bytes.loadBytes;refine Za (Zez h) fun B1 v v' h1 hv=>?_;cases hv<;>try exact SR.halt _ (.stuck _) _ trivial
  rename_i k m;cases k<;>first|exact SR.halt _ (.stuck _) _ trivial|exact Zjz n _ ((h.mono h1).add 1)
theorem ZfL{v v':Value} (h:VR G B v v'):SR G QE B (Extern.Bytes.bytesOf v) (Extern.Bytes.bytesOf v'):=by unfold Extern.Bytes.bytesOf;cases h<;>first|exact SR.halt _ (.stuck _) _ trivial|exact Zx rfl|exact Zjz _ _ ‹_›
theorem ZjA{v v':Value} (h:VR G B v v'):SR G QE B (Extern.Bytes.asByte v) (Extern.Bytes.asByte v'):=by
 unfold Extern.Bytes.asByte;cases h<;>try exact SR.halt _ (.stuck _) _ trivial
 rename_i k m;cases k<;>first|exact SR.halt _ (.stuck _) _ trivial|exact Zx rfl
theorem two_of {xs xs' : Array Value} (h : AR G B xs xs') : (∃ a b a' b', xs = #[a, b] /\ xs' = #[a', b'] /\ VR G B a a' /\ VR G B b b') ∨ (xs.size ≠ 2 /\ xs'.size ≠ 2) := by
  by_cases hs : xs.size = 2
  · left
    have hs' : xs'.size = 2 := h.size ▸ hs
    obtain ⟨l⟩ := xs
    obtain ⟨l'⟩ := xs'
    match l, l', hs, hs' with
    | [a, b], [a', b'], _, _ => exact ⟨a, b, a', b', rfl, rfl, h.at_ 0 _ _ rfl rfl, h.at_ 1 _ _ rfl rfl⟩
  · exact .inr ⟨hs, h.size ▸ hs⟩
theorem Zom{xs xs':Array Value} (h:AR G B xs xs'):SR G (QV G) B (Extern.BytealgCount.count xs) (Extern.BytealgCount.count xs'):=by
 rcases two_of h with⟨a,b,a',b',rfl,rfl,ha,hb⟩|⟨h1,h2⟩
 ·unfold Extern.BytealgCount.count;refine ZE (ZfL ha) fun B1 s h1=>?_;refine ZE (ZjA (hb.mono h1)) fun B2 c h2=>?_;exact Zx (ZbZ _)
 ·have e:∀ys:Array Value,ys.size≠2->Extern.BytealgCount.count ys=stuck "bytealg.Count: two arguments expected":=by intro ys hy;obtain⟨l⟩:=ys;match l,hy with
   |[],_=>rfl|[_],_=>rfl|[_,_],h=>exact absurd rfl h|_::_::_::_,_=>rfl
  rw[e _ h1,e _ h2];exact SR.halt _ (.stuck _) _ trivial
theorem Zon{xs xs':Array Value} (h:AR G B xs xs'):SR G (QV G) B (Extern.BytealgIndexByte.indexByte xs) (Extern.BytealgIndexByte.indexByte xs'):=by
 rcases two_of h with⟨a,b,a',b',rfl,rfl,ha,hb⟩|⟨h1,h2⟩
 ·unfold Extern.BytealgIndexByte.indexByte;refine ZE (ZfL ha) fun B1 s h1=>?_;refine ZE (ZjA (hb.mono h1)) fun B2 c h2=>?_;split<;>exact Zx (ZbZ _)
 ·have e:∀ys:Array Value,ys.size≠2->Extern.BytealgIndexByte.indexByte ys=stuck "bytealg.IndexByte: two arguments expected":=by intro ys hy;obtain⟨l⟩:=ys;match l,hy with
   |[],_=>rfl|[_],_=>rfl|[_,_],h=>exact absurd rfl h|_::_::_::_,_=>rfl
  rw[e _ h1,e _ h2];exact SR.halt _ (.stuck _) _ trivial
theorem Zoo(hg:∀g,G.P.globals.findIdx? (·.name== "internal/bytealg.MaxLen")=some g->G.glob g=true):SR G QE B Extern.BytealgIndex.maxLen Extern.BytealgIndex.maxLen:=by
 unfold Extern.BytealgIndex.maxLen globalAddr;refine .bij _ _ _ fun hB=>?_;refine Za (Q:=fun B a a'=>AddrR B a a') (Za Zbv fun B1 p p' h1 hp=>?_) fun B1 a a' h1 ha=>Za (Zez ha) fun B2 v v' h2 hv=>ZdV hv;obtain⟨rfl,rfl⟩:=hp;split;·rename_i g hgg;exact Zx (.mk _ _ _ _ (h1 _ _ (hB.glob g (hg g hgg))))
 ·exact SR.halt _ (.stuck _) _ trivial
theorem Zop(hg:∀g,G.P.globals.findIdx? (·.name== "internal/bytealg.MaxLen")=some g->G.glob g=true) {xs xs':Array Value} (h:AR G B xs xs'):SR G (QV G) B (Extern.BytealgIndex.index xs) (Extern.BytealgIndex.index xs'):=by
 rcases two_of h with⟨a,b,a',b',rfl,rfl,ha,hb⟩|⟨h1,h2⟩
 ·unfold Extern.BytealgIndex.index;refine ZE (ZfL ha) fun B1 s h1=>?_;refine ZE (ZfL (hb.mono h1)) fun B2 c h2=>?_;dsimp only;refine ZE (Zoo hg) fun B3 m h3=>?_;split;·exact SR.halt _ (.unsupported (.noEntry _)) _ trivial
  ·split;·exact SR.halt _ (.unsupported (.noEntry _)) _ trivial
   ·split<;>exact Zx (ZbZ _)
 ·have e:∀ys:Array Value,ys.size≠2->Extern.BytealgIndex.index ys=stuck "bytealg.Index: two arguments expected":=by intro ys hy;obtain⟨l⟩:=ys;match l,hy with
   |[],_=>rfl|[_],_=>rfl|[_,_],h=>exact absurd rfl h|_::_::_::_,_=>rfl
  rw[e _ h1,e _ h2];exact SR.halt _ (.stuck _) _ trivial
end
end Go.Twin
namespace Go.Twin
open Go.Conc
open Go.ConcN (upd)
section
variable (E:Env)(W0:World)(J:Nat->Option Job)(U:Nat->Prop)(Ch:Option Nat)(Post:Value->World->Prop)(sh:Nat->Prop)(bs:List Frame)
structure Goes1 (n:Node):Prop where go:KGo E W0 J U Ch Post n
structure Turn1 (n:Node):Prop where go:ZcR E W0 J U Ch Post n
def ZcY(f:Frame)(cs:List Frame)(l:World):Prop:=∀n:Node,n.sh=sh->n.bs=bs->n.f=f->n.cs=cs->(∃t d,n.l=l.re t d)->Goes1 E W0 J U Ch Post n
structure StopK (f:Frame)(cs:List Frame)(l:World):Prop where
 deep:cs≠[]
 calm:∀c,f.mode≠.panicking c
 good:∀n:Node,n.sh=sh->n.bs=bs->n.f=f->n.cs=cs->(∃t d,n.l=l.re t d)->Turn1 E W0 J U Ch Post n
end
section
variable {E:Env} {W0:World} {J:Nat->Option Job} {U:Nat->Prop} {Ch:Option Nat} {Post:Value->World->Prop} {sh:Nat->Prop} {bs:List Frame}
theorem ZQ:Halts (StopK E W0 J U Ch Post sh bs):=⟨fun f cs l h=>⟨h.deep,h.calm⟩,fun f cs l t d h=>⟨h.deep,h.calm,fun n h1 h2 h3 h4 ⟨t',d',h5⟩=>h.good n h1 h2 h3 h4 ⟨t',d',h5⟩⟩⟩
theorem ZeS(hG:E.Fine)(hsh:E.sh=true)(hJ:∀k j,J k=some j->Zch E j) {f:Frame} {cs:List Frame} {l:World} (hL:LG E (StopK E W0 J U Ch Post sh bs) f cs l):ZcY E W0 J U Ch Post sh bs f cs l:=by rintro n rfl rfl rfl rfl ⟨t,d,hl⟩;refine⟨ZnV hG hsh hJ (ZQ (sh:=n.sh) (bs:=n.bs)) (by rw[hl];exact hL.re ZQ t d) fun n' h1 h2 h3 hst=>?_⟩;exact(hst.good n' h1 h2 rfl rfl ⟨n'.l.tape,n'.l.drawn,rfl⟩).go
variable {b:Frame} {a:Act} {ops:Array Oper} {i:Nat} {rest:List Nat} {o:Oper} {k:List Item} {cs:List Frame} {l:World}
theorem Zhc{td:List Item}:∀c,(b.at a td).mode≠.panicking c:=fun c h=>by cases h
theorem Zoq(hsh:E.sh=true)(hcs:cs≠[])(ho:ops[i]?=some o)(hg:o.guard=none)(hrun:∀(a:Act) (w:World),(execOp a.eval o).run E.P w=.ok (.value (.chan (some w.heap.size))) (w.alloc (.chan 1 #[] false 0 0 false))) (hev:∀(a:Act) (w:World),(execOp a.eval o).events E.P w #[]=#[])(kk:∀c,W0.heap.size<=c->ZcY E W0 J U (some c) Post sh bs (b.at (a.put o.dst (.chan (some c))) (.inRegion ops rest::k)) cs l):StopK E W0 J U none Post sh bs (b.at a (.inRegion ops (i::rest)::k)) cs l:=by refine⟨hcs,Zhc,?_⟩;rintro n rfl rfl hf rfl hl;refine⟨ZnX hsh (fun hR=>Zn7 (n:=n) (by rw[hf];rfl) (by rw[hf];rfl) (by rw[hf];rfl) ho hg hrun hev hR) fun c hc=>?_⟩;have hk:=kk c hc {n with f:=n.f.finish (.chan (some c))} rfl rfl (by show n.f.finish _=_;rw[hf,Frame.finish_at,ho];rfl) rfl hl;exact @hk.go
theorem ZjB(hG:E.Fine)(hsh:E.sh=true)(hJ:∀k j,J k=some j->Zch E j)(hcs:cs≠[]) {K:Nat} {j:Job} (hK:0<K)(hj:J K=some j)(hU:U K)(hV:∀v,j.V v->Zbh 8 v=true)(ho:ops[i]?=some o)(hg:o.guard=none) {x:Nat} {zz:Value} (hx:a.tmps.getD x undef=.chan (some j.ch))(hrun:∀(ρ:Operand->Value)(w:World),(execOp ρ o).run E.P w=.ok (.comm #[{chan:=ρ (.tmp x),send:=none,zero:=zz}] true (.recv false)) w)(hev:∀(ρ:Operand->Value)(w:World),(execOp ρ o).events E.P w #[]=#[])(kk:∀v,j.V v->ZcY E W0 J (fun x=>U x/\x≠K) none Post sh bs (b.at (a.put o.dst v) (.inRegion ops rest::k)) cs l):StopK E W0 J U none Post sh bs (b.at a (.inRegion ops (i::rest)::k)) cs l:=by refine⟨hcs,Zhc,?_⟩;rintro n rfl rfl hf rfl hl;refine⟨ZnW hG hsh hJ hK hj hU hV (fun hR=>Zn6 (n:=n) (by rw[hf];rfl) (by rw[hf];rfl) (by rw[hf];rfl) ho hg (by rw[hf];exact hx) hrun hev hR) fun v hv=>?_⟩;have hk:=kk v hv {n with f:=n.f.finish v} rfl rfl (by show n.f.finish _=_;rw[hf,Frame.finish_at,ho];rfl) rfl hl;exact @hk.go
theorem Zor{S:Env} (hsub:SubG S E E)(hJk:E.junk=true)(hdk:∀g,E.dark g=false)(hsh:E.sh=true)(hfree:E.free=true)(hgl:∀g,E.glob g=false)(hcs:cs≠[]) {X Y:Nat->Prop} {c F x:Nat} (hdf:E.dfr F=true) {V:Value->Prop} {fn:Func} {body:Code} {cap:Array Value} (ho:ops[i]?=some o)(hg:o.guard=none)(hd:o.dst=none)(hx:a.tmps.getD x undef=.func (.func F) #[] cap)(hrun:∀(ρ:Operand->Value)(cap':Array Value)(w:World),ρ (.tmp x)=.func (.func F) #[] cap'->(execOp ρ o).run E.P w=.ok (.spawn {target:=.fn (.func F) cap',args:=#[]}) w/\(execOp ρ o).events E.P w #[]=#[])(hf:E.P.funcs[F]?=some fn)(hb:fn.body=some body)(hname:(fn.name== "runtime.NumGoroutine")=false)(hmk:Zag body=true)(hcap:∀v∈cap,VR S (idX fun b=>X b∨Y b) v v)(hX:∀b,X b->sh b)(hcl:ZaY S X l)(hY:∀b,Y b->∃c T f,l.heap[b]?=some (.cells c T f))(hL:LG E (ZbD E.P F c V) ((base F).at ⟨cap++Array.replicate (fn.ntmps-cap.size) undef,[]⟩ [.code body]) [ZD E.P] (sanW S (fun b=>X b∨Y b) Y l))(kk:∀K,0<K->J K=none->ZcY E W0 (upd J K (some ⟨c,V,[bot E.P],ZbD E.P F c V⟩)) (fun x=>U x∨x=K) none Post (fun b=>sh b∨Y b) bs (b.at (a.put o.dst undef) (.inRegion ops rest::k)) cs (sanW S (fun b=>X b∨Y b) Y l)):StopK E W0 J U (some c) Post sh bs (b.at a (.inRegion ops (i::rest)::k)) cs l:=by
 refine⟨hcs,Zhc,?_⟩;rintro n rfl rfl hfr rfl ⟨t,d,hl⟩;have hYn:∀b,Y b->∃c T f,n.l.heap[b]?=some (.cells c T f):=fun b hb=>by rw[hl];exact hY b hb
 have hcln:ZaY S X n.l:=fun b hb=>by rw[hl];exact hcl b hb
 refine⟨@Zn0 E W0 J U (some c) Post n {n with sh:=fun b=>n.sh b∨Y b,l:=sanW S (fun b=>X b∨Y b) Y n.l} (fun hR=>Zoh (X:=X) hsub hJk hsh hYn hR) (fun b' x hb=>⟨b',hb,.inl⟩) ?_⟩;have hlr:sanW S (fun b=>X b∨Y b) Y n.l=(sanW S (fun b=>X b∨Y b) Y l).re t d:=by rw[hl];rfl
 intro M S0 gs w sl t0 q fa ca hready;refine ZnY (n:={ n with sh:=fun b=>n.sh b∨Y b,l:=sanW S (fun b=>X b∨Y b) Y n.l }) (jb:=⟨c,V,[bot E.P],ZbD E.P F c V⟩) rfl (nK:=⟨fun b=>X b∨Y b,[bot E.P],n.B.on fun b=>X b∨Y b,(base F).at ⟨cap++Array.replicate (fn.ntmps-cap.size) undef,[]⟩ [.code body],[ZD E.P],sanW S (fun b=>X b∨Y b) Y n.l,ZbD E.P F c V⟩) rfl rfl (Zg7 _ _ _ _)
  (by rw[hlr];exact hL.re (Zg7 _ _ _ _) t d) (fun b x hb=>⟨hb.2,b,hb.1,hb.2.imp (hX b) id⟩) (fun hR=>?_) (fun K h1 h2=>?_) hready;·exact Zn9 (S:=S) (n:={n with sh:=fun b=>n.sh b∨Y b,l:=sanW S (fun b=>X b∨Y b) Y n.l}) hsub hdk hsh hfree hgl hdf (by rw[hfr];rfl) (by rw[hfr];rfl) (by rw[hfr];rfl) ho hg hd (by rw[hfr];exact hx) hrun hf hb hname hmk hcap (fun b hb=>hb.imp (hX b) id) (Zha hcln hYn) hR
 ·have hk:=kk K h1 h2 {n with sh:=fun b=>n.sh b∨Y b,l:=sanW S (fun b=>X b∨Y b) Y n.l,f:=n.f.finish undef} rfl rfl (by show n.f.finish _=_;rw[hfr,Frame.finish_at,ho];rfl) rfl ⟨t,d,hlr⟩;exact @hk.go
inductive Forget:List Value->List Value->Prop|nil:Forget [] []|keep (v:Value) (l l':List Value) (h:Forget l l'):Forget (v::l) (v::l')|drop (v:Value) (l l':List Value) (hb:bare v=true) (h:Forget l l'):Forget (v::l) (undef::l')
theorem ZfM:∀{l l':List Value},Forget l l'->l'.length=l.length/\∀(i:Nat) v,l'[i]?=some v->l[i]?=some v∨(v=undef/\∃u,l[i]?=some u/\bare u=true)
 |_,_,.nil=>⟨rfl,fun i v h=>by simp at h⟩|_,_,.keep v l l' h=>by obtain⟨h1,h2⟩:=ZfM h;refine⟨by simp[h1],fun i u hu=>?_⟩;cases i with
  |zero=>exact .inl hu|succ i=>exact h2 i u hu
 |_,_,.drop v l l' hb h=>by obtain⟨h1,h2⟩:=ZfM h;refine⟨by simp[h1],fun i u hu=>?_⟩;cases i with|zero=>cases hu;exact .inr ⟨rfl,v,rfl,hb⟩|succ i=>exact h2 i u hu
theorem Zos(hJk:E.junk=true) {a':Act} {td:List Item} (hd:a'.defers=a.defers)(hsz:a'.tmps.size=a.tmps.size)(hs:∀(i:Nat) v,a'.tmps[i]?=some v->a.tmps[i]?=some v∨(v=undef/\∃u,a.tmps[i]?=some u/\bare u=true))(h:ZcY E W0 J U Ch Post sh bs (b.at a' td) cs l):ZcY E W0 J U Ch Post sh bs (b.at a td) cs l:=by
 rintro n rfl rfl hf rfl hl;have hk:=h {n with f:=b.at a' td} rfl rfl rfl rfl hl;refine⟨@ZnZ E W0 J U Ch Post n {n with f:=b.at a' td} (fun {fa ca w} hR=>?_) (fun b' x hb=>⟨b',hb,id⟩) @hk.go⟩;refine⟨?_,hR.wr,hR.low⟩;have hF:=hR.st.head;rw[hf]at hF;have hst:=hR.st;rw[hf]at hst;refine hst.top ⟨hF.fn,⟨hsz.trans hF.tmps.size,fun i v v' hv hv'=>?_⟩,hF.todo,?_,hF.mode,hF.kind,hF.round⟩ (Blk.le_refl _) rfl rfl
 ·rcases hs i v hv with h1|⟨rfl,u,h1,h2⟩;·exact hF.tmps.at_ i v v' h1 hv'
  ·exact .junk v' hJk (by rw[<-(hF.tmps.at_ i u v' h1 hv').bare];exact h2)
 ·show DR n.B a'.defers fa.defers;rw[hd];exact hF.defers
theorem Zot (hJk:E.junk=true) {xs xs':List Value} {td:List Item} (hs:Forget xs xs') (h:ZcY E W0 J U Ch Post sh bs (b.at ⟨xs'.toArray,[]⟩ td) cs l):ZcY E W0 J U Ch Post sh bs (b.at ⟨xs.toArray,[]⟩ td) cs l:=Zos (a:=⟨xs.toArray,[]⟩) (a':=⟨xs'.toArray,[]⟩) hJk rfl (by simpa using (ZfM hs).1) (fun i v hv=>by simpa using (ZfM hs).2 i v (by simpa using hv)) h
end
def Zbm{α:Type} (s:Sem α):Prop:=∀P w a w',s.run P w=.ok a w'->w'=w
section
variable {α β:Type}
theorem Zb1(a:α):Zbm (Pure.pure a:Sem α):=fun P w b w' h=>by cases h;rfl
theorem Zhd(h:Halt):Zbm (.halt h:Sem α):=fun P w b w' h=>by cases h
theorem ZbS{s:Sem α} {f:α->Sem β} (h:Zbm s)(hf:∀a,Zbm (f a)):Zbm (s>>=f):=fun P w b w' hr=>by rw[Sem.run_bind]at hr;cases hs:s.run P w with|halt x w1=>rw[hs]at hr;cases hr|ok a w1=>rw[hs]at hr;have:=h P w a w1 hs;subst this;exact hf a P w1 b w' hr
theorem ZjC:Zbm Go.program:=fun P w b w' h=>by cases h;rfl
theorem ZjD(a:Addr):Zbm (load a):=fun P w b w' h=>by
 unfold load at h;simp only[Sem.run]at h;split at h;·cases h;rfl
 ·split at h;·cases h;rfl
  ·cases h
theorem Zou(t:TypeId):Zbm (underlying t):=ZbS ZjC fun P=>by split<;>first|exact Zb1 _|exact Zhd _
theorem Zov(t:TypeId):Zbm (typeInfo t):=ZbS ZjC fun P=>by split<;>first|exact Zb1 _|exact Zhd _
theorem Zow(t:TypeId):Zbm (sizeOf t):=ZbS (Zov t) fun _=>Zb1 _
theorem Zox(t:TypeId):Zbm (isAgg t):=ZbS (Zou t) fun d=>by split<;>exact Zb1 _
theorem ZjE(a:Addr):∀(n i:Nat)(acc:Array Value),Zbm (loadCellsFrom a i n acc)|0,i,acc=>Zb1 _|n+1,i,acc=>by unfold loadCellsFrom;exact ZbS (ZjD _) fun v=>ZjE a n _ _
theorem Zoy(t:TypeId)(a:Addr):Zbm (loadVar t a):=by
 unfold loadVar;refine ZbS (Zox t) fun b=>?_;split;·exact ZbS (Zow t) fun n=>ZbS (ZjE a n 0 #[]) fun c=>Zb1 _
 ·exact ZjD _
theorem Zoz(v:Value):Zbm (asAddr v):=by unfold asAddr;split<;>first|exact Zb1 _|exact Zhd _|(intro P w b w' h;simp[runtimePanic,Sem.run]at h)
theorem ZjF(fn:Func)(t:Array Value):Zbm (results fn t):=by
 unfold results;simp only[Array.mapM_eq_mapM_toList];have key:∀(rs:List ResultVar),Zbm (rs.mapM fun|.tmp t1=>Pure.pure (t.getD t1 undef)|.cell a ty=>do loadVar ty (<-asAddr (t.getD a undef))):=by intro rs;induction rs with|nil=>simp only[Zv7];exact Zb1 _|cons r rs ih=>simp only[Zv6];refine ZbS ?_ fun v=>ZbS ih fun vs=>Zb1 _;cases r with
   |tmp t1=>exact Zb1 _|cell a ty=>exact ZbS (Zoz _) fun x=>Zoy _ _
 refine ZbS (ZbS (key _) fun a=>Zb1 _) fun vs=>?_;split<;>exact Zb1 _
end
section
variable {E:Env} {W0:World} {J:Nat->Option Job} {U:Nat->Prop} {Ch:Option Nat} {Post:Value->World->Prop} {sh:Nat->Prop} {bs:List Frame}
theorem Zhe{B:Blk} {f fa c:Frame} {ca cb:List Frame} {l w:World} {R:Value->World->Prop} (hdf:fa.kind=.normal)(hR:Rel E sh (c::ca) B f [ZD E.P] l fa cb w)(hf:Ret E.P R f [ZD E.P] l):∃v v' es B' t d,R v (l.re t d)/\VR E B' v v'/\cb=c::ca/\stepG E.P true (G fa (c::ca)) w=.go (G (c.finish v') ca) w es/\∀e∈es,EvL (fun _=>False) w.heap.size e:=by have hst:=hR.st;cases hst with
 |cons _ _ _ _ _ _ hs=>cases hs with|cons _ _ _ _ _ _ h=>cases h
 |last _ _ hF hrd=>
  obtain⟨_,v,t,d,hl,hr⟩:=hf;obtain⟨hm,hd,hk,fn,hfn,hrun⟩:=hl;have hw:WR E ⟨sh,fun _=>False⟩ B (l.re t d) w:=hR.wr.retape rfl rfl rfl fun _ _ x=>x.elim;have hb:=(ZeF fn hF.tmps).both hw hR.low (by rw[hrun];exact fun j h1 h2=>absurd h2 (Zw2.2 h1));rw[hrun]at hb;obtain⟨B',v',w',new,h1,h2,h3,h4⟩:=hb;have:=ZjF fn fa.tmps E.P w v' w' h1;subst this;have hmode:fa.mode=.returning:=by
   rcases hF.mode with⟨x,_⟩|⟨_,x⟩;·rw[hm]at x;cases x
   ·exact x
  have hdef:fa.defers=[]:=by have:=hF.defers;rw[hd]at this;generalize fa.defers=x at this |-;cases this;rfl
  have hfn':E.P.funcs[fa.fn]?=some fn:=by rw[<-hF.fn];exact hfn
  refine⟨v,v',seen E.P fa.fn new,B',t,d,hr,h4,rfl,?_,fun e he=>Zg1 h3.wr (h3.ev e (Zu1 he))⟩;simp[G,stepG,unwind,doReturn,hmode,hdef,hdf,hfn',h1,h2,GStep.after]
theorem ZoA{R:Value->World->Prop} {R':Value->Prop} {c:Frame} {ca:List Frame} {f:Frame} {l:World} (hdf:E.dfr f.fn=false)(hf:Ret E.P R f [ZD E.P] l)(hU:∀x,0<x->¬U x)(hR:∀v t d,R v (l.re t d)->ZaO 8 v=true/\R' v)(hbs:bs=c::ca)(k:∀{v:Value} {w':World} {gs':Array Goroutine} {sl':Option (Nat×Nat)} {t':Trace} {q':Nat->Nat},R' v->Kept1 W0 w'->gs'[0]?=some (G (c.finish v) ca)->Leavers E.P t' gs' q'->Past (fun _=>False) w'.heap.size t'->Fin E.P Post gs' w' sl' t'):StopK E W0 J U Ch Post sh bs f [ZD E.P] l:=by
 refine⟨by simp,fun ch hc=>?_,?_⟩;·obtain⟨_,v,t,d,hl,_⟩:=hf;rw[hl.1]at hc;cases hc
 rintro n rfl rfl rfl hcs ⟨t0,d0,hl⟩;refine⟨Zn2 (fun {w gs sl t q fa cb} h0 hL hP hRel hsz hkeep hsame=>?_) hU⟩;rw[hcs,hl]at hRel;have hRel':=Rel.re' hRel;have hkn:fa.kind=.normal:=hRel'.st.head.kind.2.resolve_right fun x=>(by have:=x.1;rw[hdf]at this;cases this);rw[hbs]at hRel';obtain⟨v,v',es,B',t1,d1,g1,g2,rfl,g4,g5⟩:=Zhe hkn hRel' hf;obtain⟨s1,s2⟩:=hR v t1 d1 g1;obtain rfl:=Zi 8 s1 g2;have hst:stepG E.P (0==0) (G fa (c::ca)) w=_:=g4;have hrunT:=runT_crowd_go (P:=E.P) (sl:=sl) (i:=0) h0 hst;have hlt:0<gs.size:=(Zuo.1 h0).1;exact⟨_,_,_,_,hrunT,k s2 ⟨hsz,hkeep,hsame.1,hsame.2.1⟩ (by simp[hlt]) (Zi9 h0 hL _ _ es) (hP.own g5)⟩
end
end Go.Twin
namespace Go.Twin
open Go.Conc
variable {P:Program} {Post:Value->World->Prop} {gs:Array Goroutine} {w:World} {sl:Option (Nat×Nat)} {t:Trace}
theorem ZoB{gs':Array Goroutine} {w':World} {sl':Option (Nat×Nat)} {t':Trace} {N:Nat} (h:runNT P N (crowd gs w sl) t=(.next (crowd gs' w' sl'),t'))(hf:Fin P Post gs' w' sl' t'):Fin P Post gs w sl t:=by
 obtain⟨M,last,o,w2,t2,h1,h2,h3,h4⟩:=hf;refine⟨N+M,last,o,w2,t2,?_,?_,h3,h4⟩;·rw[Nat.add_assoc,runNT_add,h];exact h1
 ·rw[runN_add,<-runNT_fst P _ _ t,h];exact h2
theorem ZjG{fa fb:Frame} {ca cb:List Frame} {q:Nat->Nat} (h0:gs[0]?=some (G fa ca))(hL:Leavers P t gs q)(hP:Past (fun _=>False) w.heap.size t)(hst:∀d,∃es,stepG P true (G fa ca) (w.at d)=.go (G fb cb) (w.at d) es/\∀e∈es,EvL (fun _=>False) w.heap.size e)(k:∀{gs':Array Goroutine} {sl':Option (Nat×Nat)} {t':Trace} {q':Nat->Nat} (d:Nat),gs'[0]?=some (G fb cb)->Leavers P t' gs' q'->Past (fun _=>False) (w.at d).heap.size t'->Fin P Post gs' (w.at d) sl' t'):Fin P Post gs w sl t:=by obtain⟨N,gs',a',w',sl',t',q',h1,_,h3,⟨rfl,d,rfl⟩,h5,h6⟩:=walk_beside (P:=P) (Shun:=fun _=>False) (B:=w.heap.size) (D:=fun _ _ es=>∀e∈es,EvL (fun _=>False) w.heap.size e) (Stop:=fun g w'=>g=G fb cb/\∃d,w'=w.at d) (fun _ _ _ h=>h) _ 1 gs (G fa ca) w sl t q (ZwO _) h0 hL hP (by refine .inr ⟨rfl,fun w₁ hw=>?_⟩;obtain⟨d,rfl⟩:=hw;obtain⟨es,h1,h2⟩:=hst d;rw[h1,goes_go];refine⟨h2,?_⟩;rintro w₂ ⟨d',rfl⟩;exact⟨rfl,d',rfl⟩);exact ZoB h1 (k d h3 h5 h6)
section
variable {E:Env} {Post:Value->World->Prop} {W l0:World} {OldB:Blk} {sh:Nat->Prop}
theorem ZoC{R:Value->World->Prop} {u:Value} {c:Frame} {ca:List Frame} {f:Frame} {l:World} (hdf:E.dfr f.fn=false)(hf:Ret E.P R f [ZD E.P] l)(hR:∀v t d,R v (l.re t d)->v=u)(hu:ZaO 8 u=true)(hkeep:∀x,x<l0.heap.size->l.heap[x]?=l0.heap[x]?)(k:∀{w':World} {gs':Array Goroutine} {sl':Option (Nat×Nat)} {t':Trace} {q':Nat->Nat},Kept1 W w'->gs'[0]?=some (G (c.finish u) ca)->Leavers E.P t' gs' q'->Past (fun _=>False) w'.heap.size t'->Fin E.P Post gs' w' sl' t'):StopG E Post W l0 OldB sh (c::ca) f [ZD E.P] l:=by
 refine⟨by simp,fun ch hc=>?_,hkeep,?_⟩;·obtain⟨_,v,t,d,hl,_⟩:=hf;rw[hl.1]at hc;cases hc
 intro B fa cb w gs sl t q h0 hL hP hRel hO;have hkn:fa.kind=.normal:=hRel.st.head.kind.2.resolve_right fun x=>(by have:=x.1;rw[hdf]at this;cases this);obtain rfl:cb=c::ca:=by obtain⟨v,v',es,B',t1,d1,g1,g2,g3,g4,g5⟩:=Zhe hkn hRel hf;exact g3
 refine ZjG (fb:=c.finish u) (cb:=ca) h0 hL hP (fun d=>?_) fun d h0' hL' hP'=>k ⟨hO.kept.size,hO.kept.heap,hO.kept.os,hO.kept.output⟩ h0' hL' hP';obtain⟨v,v',es,B',t1,d1,g1,g2,_,g4,g5⟩:=Zhe hkn (hRel.at_ d) hf;obtain rfl:=hR v t1 d1 g1;obtain rfl:=Zi 8 hu g2;exact⟨es,g4,g5⟩
end
section
variable {S:Env} {X D:Nat->Prop}
theorem Zcx(S:Env)(X:Nat->Prop) {v:Value} (hb:bare v=true):∃u,VR S (idX X) u u/\(VR S (idX X) v v->u=v)/\∀(E:Env),Sub S E->E.junk=true->VR E (idX X) u v:=by
 by_cases hn:VR S (idX X) v v;·exact⟨v,hn,fun _=>rfl,fun E hs hJ=>hs.vr hn⟩
 ·exact⟨.tuple #[],undefR,fun h=>absurd h hn,fun E hs hJ=>.junk v hJ hb⟩
theorem Zd6(S:Env)(X:Nat->Prop):∀(v:Value),∃u,VR S (idX X) u u/\(VR S (idX X) v v->u=v)/\∀(E:Env),Sub S E->E.junk=true->VR E (idX X) u v
 |.iface t v=>by obtain⟨u,h1,h2,h3⟩:=Zd6 S X v;refine⟨.iface t u,.iface _ _ _ h1,fun h=>?_,fun E hs hJ=>.iface _ _ _ (h3 E hs hJ)⟩;cases h with|iface _ _ _ h4=>rw[h2 h4]
 |.agg xs=>by
  have hx:∀i:_root_.Fin xs.size,∃u,VR S (idX X) u u/\(VR S (idX X) xs[i] xs[i]->u=xs[i])/\∀(E:Env),Sub S E->E.junk=true->VR E (idX X) u xs[i]:=fun i=>Zd6 S X xs[i];have hsz:(Array.ofFn fun i=>(hx i).choose).size=xs.size:=by simp
  have at_:∀(i:Nat)(u:Value),(Array.ofFn fun i=>(hx i).choose)[i]?=some u->∃v,xs[i]?=some v/\VR S (idX X) u u/\(VR S (idX X) v v->u=v)/\∀(E:Env),Sub S E->E.junk=true->VR E (idX X) u v:=by
   intro i u hu;rw[Array.getElem?_ofFn]at hu;split at hu;·rename_i hi;cases hu;exact⟨xs[i],Zum hi,(hx ⟨i,hi⟩).choose_spec⟩
   ·cases hu
  refine⟨.agg (Array.ofFn fun i=>(hx i).choose),.agg _ _ rfl fun i u u' h1 h2=>?_,fun h=>?_,fun E hs hJ=>?_⟩;·rw[h1]at h2;cases h2;obtain⟨v,g1,g2,_⟩:=at_ i u h1;exact g2
  ·cases h with|agg _ _ _ h4=>congr 1;refine Array.ext hsz fun i h1 h2=>?_;obtain⟨v,g1,g2,g3,_⟩:=at_ i _ (Zum h1);rw[Zum h2]at g1;cases g1;exact g3 (h4 i _ _ (Zum h2) (Zum h2))
  ·refine .agg _ _ hsz fun i u v' h1 h2=>?_;obtain⟨v,g1,g2,g3,g4⟩:=at_ i u h1;rw[h2]at g1;cases g1;exact g4 E hs hJ|.bool b=>⟨.bool b,.bool b,fun _=>rfl,fun E hs hJ=>.bool b⟩|.int k n=>⟨.int k n,.int k n,fun _=>rfl,fun E hs hJ=>.int k n⟩|.string s=>⟨.string s,.string s,fun _=>rfl,fun E hs hJ=>.string s⟩|.nilIface=>⟨.nilIface,.nilIface,fun _=>rfl,fun E hs hJ=>.nilIface⟩|.float a b=>Zcx S X rfl|.complex a b c=>Zcx S X rfl|.pointer a=>Zcx S X rfl|.slice a b c=>Zcx S X rfl|.map a=>Zcx S X rfl|.chan a=>Zcx S X rfl|.func a b c=>Zcx S X rfl|.nilFunc=>Zcx S X rfl|.tuple a=>Zcx S X rfl termination_by v=>SizeOf.sizeOf v decreasing_by
 ·simp_wf;omega
 ·have:=Array.sizeOf_getElem xs i.1 i.2;simp_wf;have e:SizeOf.sizeOf xs[i]=SizeOf.sizeOf xs[i.1]:=rfl;omega
noncomputable def clean(S:Env)(X:Nat->Prop)(v:Value):Value:=(Zd6 S X v).choose
theorem ZoD(S:Env) (X:Nat->Prop) (v:Value):VR S (idX X) (clean S X v) (clean S X v):=(Zd6 S X v).choose_spec.1
theorem ZoE{v:Value} (h:VR S (idX X) v v):clean S X v=v:=(Zd6 S X v).choose_spec.2.1 h
theorem ZoF{E:Env} (hs:Sub S E) (hJ:E.junk=true) (v:Value):VR E (idX X) (clean S X v) v:=(Zd6 S X v).choose_spec.2.2 E hs hJ
def ZaC(D:Nat->Prop)(w:World)(b:Nat):Prop:=(∃c T f,w.heap[b]?=some (.cells c T f))/\¬D b
noncomputable def ZjH(S:Env)(X:Nat->Prop)(o:Obj):Obj:=match o with|.cells c T _=>.cells (c.map (clean S X)) T (0,c.size+1)|o=>o
open Classical in noncomputable def ZbT(S:Env)(D:Nat->Prop)(w:World):World:={w with heap:=w.heap.mapIdx fun b o=>if D b then .deferred none else ZjH S (ZaC D w) o}
theorem ZcZ{w:World}:(ZbT S D w).heap.size=w.heap.size:=by simp[ZbT]
theorem ZfN{w:World} {b:Nat} (h:¬D b) {c:Array Value} {T:TypeId} {f:Nat×Nat} (hc:w.heap[b]?=some (.cells c T f)):(ZbT S D w).heap[b]?=some (.cells (c.map (clean S (ZaC D w))) T (0,(c.map (clean S (ZaC D w))).size+1)):=by simp only[ZbT,Zuq,hc];simp[h,ZjH]
theorem ZjI{w:World} {b:Nat} (h:D b)(hb:b<w.heap.size):(ZbT S D w).heap[b]?=some (.deferred none):=by simp only[ZbT,Zuq,Zum hb];simp[h]
theorem ZoG{w:World} {a:Addr} {v:Value} (hd:¬D a.block)(hv:w.cell? a=some v)(hn:VR S (idX (ZaC D w)) v v):(ZbT S D w).cell? a=some v:=by cases hc:w.heap[a.block]? with|none=>simp[World.cell?,hc]at hv|some o=>cases o with
  |cells c T f=>
   simp only[World.cell?,hc]at hv;simp only[World.cell?,ZfN hd hc];split at hv;·cases hv
   ·rename_i hs;rw[if_neg hs,Zup,hv,Zxg,ZoE hn]|_=>simp[World.cell?,hc]at hv
theorem ZoH{E:Env} (hs:Sub S E)(hJ:E.junk=true)(hsh:E.sh=true) {w:World} (hgl:∀g,E.glob g=true->ZaC D w g)(hdk:∀g,E.dark g=true->D g/\g<w.heap.size)(hsz:E.P.globals.size<=w.heap.size):WR E ⟨ZaC D w,fun _=>False⟩ (idX (ZaC D w)) (ZbT S D w) w:=by
 have hlt:∀b,ZaC D w b->b<w.heap.size:=fun b h=>by obtain⟨⟨_,_,_,h⟩,_⟩:=h;exact(Zuo.1 h).1
 refine⟨fun b b' c' x y=>x.1.symm.trans y.1,fun b c b' x y=>x.1.trans y.1.symm,fun b b' x=>?_,fun b b' x hn=>absurd x.2 hn,fun b b' x hb=>?_,fun _ _ x=>x.elim,fun g hg=>⟨rfl,hgl g hg⟩,fun b b' x=>by rw[x.1],⟨by rw[ZcZ];exact hsz,hsz⟩,fun h=>(by rw[hsh]at h;cases h),fun g hg=>⟨ZjI (hdk g hg).1 (hdk g hg).2,fun b' x=>x.2.2 (hdk g hg).1⟩⟩;·obtain⟨rfl,hx⟩:=x;rw[ZcZ];exact⟨hlt b hx,hlt b hx⟩
 ·obtain⟨rfl,hx⟩:=x;obtain⟨⟨c,T,f,hc⟩,hd⟩:=id hx;refine⟨_,c,T,f,ZfN hd hc,hc,⟨by simp,fun i u v' hu hv'=>?_⟩⟩;rw[Zup,hv',Zxg]at hu;cases hu;exact ZoF hs hJ v'
theorem ZoI(hsh:S.sh=true) {w:World} (hgl:∀g,S.glob g=true->ZaC D w g) (hdk:∀g,S.dark g=true->D g/\g<w.heap.size) (hsz:S.P.globals.size<=w.heap.size):Self S (ZaC D w) (idX (ZaC D w)) (ZbT S D w):=by
 have hlt:∀b,ZaC D w b->b<w.heap.size:=fun b h=>by obtain⟨⟨_,_,_,h⟩,_⟩:=h;exact(Zuo.1 h).1
 refine⟨⟨fun b b' c' x y=>x.1.symm.trans y.1,fun b c b' x y=>x.1.trans y.1.symm,fun b b' x=>?_,fun b b' x hn=>absurd x.2 hn,fun b b' x hb=>?_,fun _ _ _=>rfl,fun g hg=>⟨rfl,hgl g hg⟩,fun b b' x=>by rw[x.1],⟨by rw[ZcZ];exact hsz,by rw[ZcZ];exact hsz⟩,fun h=>(by rw[hsh]at h;cases h),fun g hg=>⟨ZjI (hdk g hg).1 (hdk g hg).2,fun b' x=>x.2.2 (hdk g hg).1⟩⟩,fun b hb=>by rw[ZcZ];exact hlt b hb,fun b b' x=>x.1⟩;·obtain⟨rfl,hx⟩:=x;rw[ZcZ];exact⟨hlt b hx,hlt b hx⟩
 ·obtain⟨rfl,hx⟩:=x;obtain⟨⟨c,T,f,hc⟩,hd⟩:=id hx;refine⟨_,_,T,_,ZfN hd hc,ZfN hd hc,⟨rfl,fun i u v' hu hv'=>?_⟩⟩;rw[hu]at hv';cases hv';rw[Zup]at hu;obtain⟨v,hv,rfl⟩:=Zxf.1 hu;exact ZoD S _ v
end
section
variable {E:Env} {Post:Value->World->Prop} {W l0:World} {OldB:Blk} {sh:Nat->Prop} {bs':List Frame}
theorem ZoJ(hG:E.Fine)(hold:∀b x,OldB b x->sh b∨(b=x/\x<l0.heap.size/\l0.heap[x]?=W.heap[x]?/\E.sh=false/\E.junk=false)) {b:Frame} {a:Act} {k:List Item} {cs:List Frame} {ops:Array Oper} {i:Nat} {rest:List Nat} {o:Oper} {g:FuncId} {l:World} {R:Value->Prop} (hcs:cs≠[])(ho:ops[i]?=some o)(hg:o.guard=none)(hrun:∀(a:Act)(w:World),(execOp a.eval o).run E.P w=.ok (.enter g #[]) w)(hev:∀(a:Act)(w:World),(execOp a.eval o).events E.P w #[]=#[])(hkeep:∀x,x<l0.heap.size->l.heap[x]?=l0.heap[x]?)(hph:∀{w:World},Kept1 W w->ZcX E.P (Frame.enter E.P g #[] .normal) w R)(hR:∀v,R v->Zbh 8 v=true)(kk:∀v n,R v->LG E (StopG E Post W l0 OldB sh bs') (b.at (a.put o.dst v) (.inRegion ops rest::k)) cs (pad l n)):StopG E Post W l0 OldB sh bs' ((b.at a (.inRegion ops (i::rest)::k))) cs l:=by
 refine⟨hcs,fun c h=>(by cases h),hkeep,?_⟩;intro B fa ca w gs sl t q h0 hLv hP hRel hO;have hF:=hRel.st.head;obtain⟨k',e,hk⟩:=hF.oper rfl rfl rfl;have hwn:Region.wanted o (yielded ops (⟨fa.tmps,fa.defers⟩:Act).tmps)=true:=by unfold Region.wanted;rw[hg]
 have hstep:∀d,∃es,stepG E.P true (G fa ca) (w.at d)=.go (G (Frame.enter E.P g #[] .normal) (fa::ca)) (w.at d) es/\∀e∈es,EvL (fun _=>False) w.heap.size e:=by intro d;have h1:=stepG_enter (P:=E.P) (main:=true) (b:=fa) (a:=⟨fa.tmps,fa.defers⟩) (k:=k') (rest:=rest) (cs:=ca) (w:=w.at d) ho hwn hF.noEarly (hrun _ _);rw[<-e]at h1;rw[listed_nil (hev _ _)]at h1;exact⟨_,h1,fun e he=>by simp at he⟩
 refine ZjG (fb:=Frame.enter E.P g #[] .normal) (cb:=fa::ca) h0 hLv hP hstep fun {gs1 sl1 t1 q1} d h0' hL' hP'=>?_;have hk0:Kept1 W (w.at d):=⟨hO.kept.size,hO.kept.heap,hO.kept.os,hO.kept.output⟩;refine hph hk0 h0' hL' hP' fun {v w' gs' sl' t' q'} hv hk1 h0'' hL'' hP''=>?_;have hst:=hRel.st;have hkk:=hk1;refine ZfJ hG hold (kk v (w'.heap.size-w.heap.size) hv) h0'' hL'' hP'' ⟨?_,Zjp (w:=w) ⟨hk1.size,hk1.heap,hk1.os,hk1.output⟩ (fun hs=>?_) (fun i h=>h) hRel.wr,fun b hb=>?_⟩ ⟨hk0.trans hk1,hO.old⟩;·have hfin:=hF.finish (VR.closed (G:=E) (B:=B) 8 v (hR v hv));rw[Frame.finish_at,ho]at hfin;exact hst.top hfin (Blk.le_refl _) rfl
 ·have:=(hRel.wr.sh hs).2.1;have:w.heap.size<=w'.heap.size:=hk1.size;omega
 ·rw[Zb8];have:=hRel.low b hb;omega
theorem ZjJ{B:Blk} {f fa:Frame} {cb:List Frame} {l w:World} {R:Value->World->Prop} (hdf:fa.kind=.normal)(hi:E.P.inits.idxOf? fa.fn=none)(hR:Rel E sh [] B f [ZD E.P] l fa cb w)(hf:Ret E.P R f [ZD E.P] l):∃v v' es B' t d,R v (l.re t d)/\VR E B' v v'/\cb=[]/\stepG E.P true (G fa []) w=.ended (.done v') w es/\∀e∈es,EvL (fun _=>False) w.heap.size e:=by have hst:=hR.st;cases hst with
 |cons _ _ _ _ _ _ hs=>cases hs with|cons _ _ _ _ _ _ h=>cases h
 |last _ _ hF hrd=>
  obtain⟨_,v,t,d,hl,hr⟩:=hf;obtain⟨hm,hd,hk,fn,hfn,hrun⟩:=hl;have hw:WR E ⟨sh,fun _=>False⟩ B (l.re t d) w:=hR.wr.retape rfl rfl rfl fun _ _ x=>x.elim;have hb:=(ZeF fn hF.tmps).both hw hR.low (by rw[hrun];exact fun j h1 h2=>absurd h2 (Zw2.2 h1));rw[hrun]at hb;obtain⟨B',v',w',new,h1,h2,h3,h4⟩:=hb;have:=ZjF fn fa.tmps E.P w v' w' h1;subst this;have hmode:fa.mode=.returning:=by
   rcases hF.mode with⟨x,_⟩|⟨_,x⟩;·rw[hm]at x;cases x
   ·exact x
  have hdef:fa.defers=[]:=by have:=hF.defers;rw[hd]at this;generalize fa.defers=x at this |-;cases this;rfl
  have hfn':E.P.funcs[fa.fn]?=some fn:=by rw[<-hF.fn];exact hfn
  refine⟨v,v',seen E.P fa.fn new,B',t,d,hr,h4,rfl,?_,fun e he=>Zg1 h3.wr (h3.ev e (Zu1 he))⟩;simp[G,stepG,unwind,doReturn,hmode,hdef,hdf,hfn',h1,h2,hi,GStep.after]
theorem ZoK{R:Value->World->Prop} {u:Value} {f:Frame} {l:World} (hdf:E.dfr f.fn=false)(hi:E.P.inits.idxOf? f.fn=none)(hf:Ret E.P R f [ZD E.P] l)(hR:∀v t d,R v (l.re t d)->v=u)(hu:ZaO 8 u=true)(hkeep:∀x,x<l0.heap.size->l.heap[x]?=l0.heap[x]?)(k:∀w',Kept1 W w'->Post u w'):StopG E Post W l0 OldB sh [] f [ZD E.P] l:=by
 refine⟨by simp,fun ch hc=>?_,hkeep,?_⟩;·obtain⟨_,v,t,d,hl,_⟩:=hf;rw[hl.1]at hc;cases hc
 intro B fa cb w gs sl t q h0 hL hP hRel hO;have hF:=hRel.st.head;have hkn:fa.kind=.normal:=hF.kind.2.resolve_right fun x=>(by have:=x.1;rw[hdf]at this;cases this);have hi':E.P.inits.idxOf? fa.fn=none:=by rw[<-hF.fn];exact hi
 obtain rfl:cb=[]:=by obtain⟨v,v',es,B',t1,d1,g1,g2,g3,g4,g5⟩:=ZjJ hkn hi' hRel hf;exact g3
 refine beside_ends (D:=fun _ _ _=>False) (n:=0) (fun _ _ _ h=>h.elim) h0 hL hP ?_;rintro w₁ ⟨d,rfl⟩;obtain⟨v,v',es,B',t1,d1,g1,g2,_,g4,g5⟩:=ZjJ hkn hi' (hRel.at_ d) hf;obtain rfl:=hR v t1 d1 g1;obtain rfl:=Zi 8 hu g2;exact⟨rfl,_,es,g4,g5,k _ ⟨hO.kept.size,hO.kept.heap,hO.kept.os,hO.kept.output⟩⟩
end
section
variable {S E:Env} {D:Nat->Prop} {Post:Value->World->Prop}
theorem ZoL(hG:E.Fine)(hs:Sub S E)(hJ:E.junk=true)(hsh:E.sh=true)(hfree:E.free=true) {F:Nat} {fn:Func} {body:Code} {args:Array Value} {W:World} (hf:E.P.funcs[F]?=some fn)(hb:fn.body=some body)(hm:Zag body=true)(hgl:∀g,E.glob g=true->ZaC D W g)(hdk:∀g,E.dark g=true->D g/\g<W.heap.size)(hsz:E.P.globals.size<=W.heap.size)(ha:AR S (idX (ZaC D W)) args args)(hL:LG E (StopG E Post W (ZbT S D W) (idX (ZaC D W)) (ZaC D W) []) (Frame.enter E.P F args .normal) [ZD E.P] (ZbT S D W)):Fin E.P Post #[G (Frame.enter E.P F args .normal) []] W none #[]:=by
 refine Zoj fun {gs sl t q} h0 hLv hP=>?_;refine ZfJ hG (fun b x hb=>.inl hb.2) hL h0 hLv hP (B:=idX (ZaC D W)) ⟨?_,ZoH hs hJ hsh hgl hdk hsz,fun b hb=>?_⟩ ⟨Kept1.refl W,fun b x hb _=>hb⟩
 ·have e:(Frame.enter E.P F args .normal).tmps=args++Array.replicate (fn.ntmps-args.size) undef:=by simp[Frame.enter,hf]
  refine .last _ _ ⟨rfl,?_,?_,?_,.inl ⟨rfl,rfl⟩,⟨rfl,.inl rfl⟩,.inl ⟨rfl,rfl⟩⟩ rfl;·rw[e];exact(hs.ar ha).append (AR.replicate _ undefR)
  ·have e:(Frame.enter E.P F args .normal).todo=[.code body]:=by simp[Frame.enter,hf,hb]
   rw[e];exact .cons _ _ _ _ (.code _ ⟨hm,fun hff=>by rw[hfree]at hff;cases hff⟩) .nil
  ·exact .nil
 ·obtain⟨⟨_,_,_,h⟩,_⟩:=hb;rw[ZcZ];exact(Zuo.1 h).1
end
end Go.Twin
namespace Go.Proofs
open Go.Twin
def Zdx:List Nat:=[68,64,54,63,83,84,85,86,80,89,104,103,115,124,125,138,139,90]
noncomputable def EnvS:Env:={P:=Tryz.prog,good:=fun f=>Zdx.contains f,glob:=fun _=>false,sh:=true,free:=false,junk:=false,nn:=true,dfr:=fun _=>false,dark:=fun _=>false,tab:=.refuse "#"}
theorem ZfO:Strict EnvS:=⟨rfl,rfl,fun _=>rfl,rfl⟩
def ZjK(E:Env)(f:Nat):Bool:=match E.P.funcs[f]? with| some fn => (fn.name != "runtime.NumGoroutine") && (match fn.body with | some c => E.code c | none => false)|none=>true
theorem Zhf(E:Env)(l:List Nat)(hg:∀f,E.good f=l.contains f)(h:l.all (ZjK E)=true)(hj:E.junk=false):E.Fine:=by
 have key:∀f fn,E.good f=true->E.P.funcs[f]?=some fn->(fn.name== "runtime.NumGoroutine")=false/\∃c,fn.body=some c/\E.code c=true:=by intro f fn hf hfn;rw[hg]at hf;have h1:=Zve.1 h f (by simpa using hf);unfold ZjK at h1;rw[hfn]at h1;simp only[ZuM]at h1;refine⟨by simpa using h1.1,?_⟩;cases hb:fn.body with|none=>rw[hb]at h1;exact absurd h1.2 (by simp)|some c=>rw[hb]at h1;exact⟨c,rfl,h1.2⟩
 refine⟨fun _ f fn c hf hfn hb=>?_,fun f fn c hf hfn hb=>?_,fun h=>(by rw[hj]at h;cases h),fun f fn hf hfn=>(key f fn hf hfn).1,fun f fn hf hfn hb=>?_,fun f fn e hf hfn hb=>?_⟩;·obtain⟨_,c',h1,h2⟩:=key f fn hf hfn;rw[hb]at h1;cases h1;exact h2
 ·obtain⟨_,c',h1,h2⟩:=key f fn hf hfn;rw[hb]at h1;cases h1;exact ZbC c h2
 ·obtain⟨_,c',h1,h2⟩:=key f fn hf hfn;rw[h1]at hb;cases hb
 ·obtain⟨_,c',h1,h2⟩:=key f fn hf hfn;rw[h1]at hb;cases hb
theorem ZfP:EnvS.Fine:=Zhf EnvS Zdx (fun _=>rfl) (by kernel_rfl) rfl
noncomputable def Zc0:Env:=EnvS.wide EnvS.good false (.refuse "#")
theorem ZjL:Zc0.Fine:=Zhf Zc0 Zdx (fun _=>rfl) (by kernel_rfl) rfl
def ZfQ:List Nat:=Zdx++[87,88]
noncomputable def Zau:Env:={EnvS with good:=fun f=>ZfQ.contains f,free:=true,junk:=true,dfr:=fun f=>f==88}
def ZfR(P:Program)(f:Nat):Bool:=match P.funcs[f]? with| some fn => (fn.name != "runtime.NumGoroutine") && (match fn.body with | some c => Zag c | none => false)|none=>true
theorem ZfS(E:Env)(l:List Nat)(hg:∀f,E.good f=l.contains f)(h:l.all (ZfR E.P)=true)(hj:E.junk=true->E.nn=true)(hf:E.free=true):E.Fine:=by
 have key:∀f fn,E.good f=true->E.P.funcs[f]?=some fn->(fn.name== "runtime.NumGoroutine")=false/\∃c,fn.body=some c/\Zag c=true:=by intro f fn hf hfn;rw[hg]at hf;have h1:=Zve.1 h f (by simpa using hf);unfold ZfR at h1;rw[hfn]at h1;simp only[ZuM]at h1;refine⟨by simpa using h1.1,?_⟩;cases hb:fn.body with
  |none=>rw[hb]at h1;exact absurd h1.2 (by simp)|some c=>rw[hb]at h1;exact⟨c,rfl,h1.2⟩
 refine⟨fun h=>(by rw[hf]at h;cases h),fun f fn c hf hfn hb=>?_,hj,fun f fn hf hfn=>(key f fn hf hfn).1,fun f fn hf hfn hb=>?_,fun f fn e hf hfn hb=>?_⟩;·obtain⟨_,c',h1,h2⟩:=key f fn hf hfn;rw[hb]at h1;cases h1;exact h2
 ·obtain⟨_,c',h1,h2⟩:=key f fn hf hfn;rw[h1]at hb;cases hb
 ·obtain⟨_,c',h1,h2⟩:=key f fn hf hfn;rw[h1]at hb;cases hb
theorem Zdy:Zau.Fine:=ZfS Zau ZfQ (fun _=>rfl) (by kernel_rfl) (fun _=>rfl) rfl
theorem ZfT:Sub Zc0 Zau:=⟨rfl,rfl,rfl,rfl,rfl,fun h=>(by cases h),fun f h=>by have h1:Zdx.contains f=true:=h;show ZfQ.contains f=true;simp only[ZfQ,List.contains_eq_mem,Zwf,decide_eq_true_eq]at h1 |-;exact .inl h1,fun h=>h⟩
theorem ZjM:Sub Zc0 EnvS:=⟨rfl,rfl,rfl,rfl,rfl,fun h=>h,fun f h=>h,fun h=>h⟩
end Go.Proofs
namespace Go.Proofs
open Tryz
open Go.Twin
def Zd7:List Nat:=[33,70,9,75,41,17,36,32,52,68,65,53,64,37,38,91,39,92,93,71,42,40,90,43,44,45,96,97,98,99,76,100,74,54,55,61,63,72,73,83,84,85,86,80,105,106,107,89,77,114,101,104,112,94,95,103,115,122,108,109,110,111,113,124,125,136,116,117,118,119,120,121,123,127,138,139,145,146,147,148,126,128,129,130,131,132,133,134,135,137,140,151,152,153,154,155,141,142,143,144,156,157,149,150]
noncomputable def ZK:Env:={P:=prog,good:=fun f=>Zd7.contains f,glob:=fun g=>[0,5,1,2,6,7].contains g,sh:=false,free:=false,junk:=false,nn:=true,dfr:=fun _=>false,dark:=fun g=>[3,4].contains g,tab:=.refuse "#"}
theorem Za7:Strict ZK:=⟨rfl,rfl,fun _=>rfl,rfl⟩
def Zcy:List Nat:=[118,128,140]
noncomputable def ZjN(E:Env)(f:Nat):Bool:=match E.P.funcs[f]? with| some fn => (fn.name != "runtime.NumGoroutine") && (match fn.body with | some c => E.code c | none => Zcy.contains f && (Extern.findNext fn).isNone)|none=>true
theorem ZoM:Extern.find Tryz.f118=some Extern.BytealgCount.count:=by kernel_rfl
theorem ZoN:Extern.find Tryz.f128=some Extern.BytealgIndex.index:=by kernel_rfl
theorem ZoO:Extern.find Tryz.f140=some Extern.BytealgIndexByte.indexByte:=by kernel_rfl
theorem ZoP:prog.globals.findIdx? (·.name== "internal/bytealg.MaxLen")=some 0:=by kernel_rfl
theorem Zhg(E:Env) (hP:E.P=prog) (hgl:E.glob 0=true) {f:Nat} {fn:Func} {e:Array Value->Sem Value} (hfn:E.P.funcs[f]?=some fn) (hm:Zcy.contains f=true) (he:Extern.find fn=some e) (B:Blk) (xs xs':Array Value) (h:AR E B xs xs'):SR E (QV E) B (e xs) (e xs'):=by
 rw[hP]at hfn;have hm':f=118∨f=128∨f=140:=by simpa [Zcy] using hm
 rcases hm' with rfl|rfl|rfl;·rw[func118]at hfn;cases hfn;rw[ZoM]at he;cases he;exact Zom h
 ·rw[func128]at hfn;cases hfn;rw[ZoN]at he;cases he;refine Zop (fun g hg=>?_) h;rw[hP,ZoP]at hg;cases hg;exact hgl
 ·rw[func140]at hfn;cases hfn;rw[ZoO]at he;cases he;exact Zon h
theorem ZoQ(E:Env)(hP:E.P=prog)(hgl:E.glob 0=true)(l:List Nat)(hg:∀f,E.good f=l.contains f)(h:l.all (ZjN E)=true)(hj:E.junk=true->E.nn=true):E.Fine:=by
 have key:∀f fn,E.good f=true->E.P.funcs[f]?=some fn->(fn.name== "runtime.NumGoroutine")=false/\((∃c,fn.body=some c/\E.code c=true)∨(fn.body=none/\Zcy.contains f=true/\Extern.findNext fn=none)):=by intro f fn hf hfn;rw[hg]at hf;have h1:=Zve.1 h f (by simpa using hf);unfold ZjN at h1;rw[hfn]at h1;simp only[ZuM]at h1;refine⟨by simpa using h1.1,?_⟩;cases hb:fn.body with
  |none=>rw[hb]at h1;have h2:=h1.2;simp only[ZuM]at h2;exact .inr ⟨rfl,h2.1,by simpa using h2.2⟩|some c=>rw[hb]at h1;exact .inl ⟨c,rfl,h1.2⟩
 refine⟨fun _ f fn c hf hfn hb=>?_,fun f fn c hf hfn hb=>?_,hj,fun f fn hf hfn=>(key f fn hf hfn).1,fun f fn hf hfn hb=>?_,fun f fn e hf hfn hb he B xs xs' hx=>?_⟩
 ·rcases(key f fn hf hfn).2 with⟨c',h1,h2⟩|⟨h1,_⟩;·rw[hb]at h1;cases h1;exact h2
  ·rw[hb]at h1;cases h1
 ·rcases(key f fn hf hfn).2 with⟨c',h1,h2⟩|⟨h1,_⟩;·rw[hb]at h1;cases h1;exact ZbC c h2
  ·rw[hb]at h1;cases h1
 ·rcases(key f fn hf hfn).2 with⟨c',h1,h2⟩|⟨_,_,h2⟩;·rw[h1]at hb;cases hb
  ·exact h2
 ·rcases(key f fn hf hfn).2 with⟨c',h1,h2⟩|⟨_,h2,_⟩;·rw[h1]at hb;cases hb
  ·exact Zhg E hP hgl hfn h2 he B xs xs' hx
theorem ZR:ZK.Fine:=ZoQ ZK rfl (by decide) Zd7 (fun _=>rfl) (by kernel_rfl) (fun h=>(by cases h))
theorem ZoR{E:Env} (h:E.Fine)(hP:E.P=prog)(hgl:E.glob 0=true)(hx:∀f fn,E.good f=true->E.P.funcs[f]?=some fn->fn.body.isNone=true->Zcy.contains f=true)(tab:Code):(E.run tab).Fine:=⟨fun hf=>(by cases hf),h.mark,fun hj=>(by cases hj),h.name,h.next,fun f fn e hf hfn hb he B xs xs' hxs=>Zhg (E.run tab) hP hgl hfn (hx f fn hf hfn hb) he B xs xs' hxs⟩
noncomputable def ZjO(f:Nat):Bool:=match prog.funcs[f]? with|some fn=>fn.body.isSome||Zcy.contains f|none=>true
theorem ZoS:Zd7.all ZjO=true:=by kernel_rfl
theorem ZoT(f:Nat)(fn:Func)(hf:Zd7.contains f=true)(hfn:prog.funcs[f]?=some fn)(hb:fn.body.isNone=true):Zcy.contains f=true:=by
 have h1:=Zve.1 ZoS f (by simpa using hf);unfold ZjO at h1;rw[hfn]at h1;simp only[ZuV]at h1;rcases h1 with h1|h1;·cases hbb:fn.body with
  |none=>rw[hbb]at h1;cases h1|some c=>rw[hbb]at hb;cases hb
 ·exact h1
theorem Zbc(tab:Code):(ZK.run tab).Fine:=ZoR ZR rfl (by decide) (fun f fn hf hfn hb=>ZoT f fn hf hfn hb) tab
def ZjP:List Nat:=Zd7++[35,34,69]
noncomputable def ZM:Env:={ZK with good:=fun f=>ZjP.contains f,free:=true}
noncomputable def ZjQ(f:Nat):Bool:=match prog.funcs[f]? with| some fn => (fn.name != "runtime.NumGoroutine") && (match fn.body with | some c => Zag c | none => Zcy.contains f && (Extern.findNext fn).isNone)|none=>true
theorem ZoU(E:Env)(hP:E.P=prog)(hgl:E.glob 0=true)(hfr:E.free=true)(l:List Nat)(hg:∀f,E.good f=l.contains f)(h:l.all ZjQ=true)(hj:E.junk=true->E.nn=true):E.Fine:=by
 have key:∀f fn,E.good f=true->E.P.funcs[f]?=some fn->(fn.name== "runtime.NumGoroutine")=false/\((∃c,fn.body=some c/\Zag c=true)∨(fn.body=none/\Zcy.contains f=true/\Extern.findNext fn=none)):=by intro f fn hf hfn;rw[hg]at hf;rw[hP]at hfn;have h1:=Zve.1 h f (by simpa using hf);unfold ZjQ at h1;rw[hfn]at h1;simp only[ZuM]at h1;refine⟨by simpa using h1.1,?_⟩;cases hb:fn.body with|none=>rw[hb]at h1;have h2:=h1.2;simp only[ZuM]at h2;exact .inr ⟨rfl,h2.1,by simpa using h2.2⟩|some c=>rw[hb]at h1;exact .inl ⟨c,rfl,h1.2⟩
 refine⟨fun hf=>(by rw[hfr]at hf;cases hf),fun f fn c hf hfn hb=>?_,hj,fun f fn hf hfn=>(key f fn hf hfn).1,fun f fn hf hfn hb=>?_,fun f fn e hf hfn hb he B xs xs' hx=>?_⟩
 ·rcases(key f fn hf hfn).2 with⟨c',h1,h2⟩|⟨h1,_⟩;·rw[hb]at h1;cases h1;exact h2
  ·rw[hb]at h1;cases h1
 ·rcases(key f fn hf hfn).2 with⟨c',h1,h2⟩|⟨_,_,h2⟩;·rw[h1]at hb;cases hb
  ·exact h2
 ·rcases(key f fn hf hfn).2 with⟨c',h1,h2⟩|⟨_,h2,_⟩;·rw[h1]at hb;cases hb
  ·exact Zhg E hP hgl hfn h2 he B xs xs' hx
theorem Zhh:ZM.Fine:=ZoU ZM rfl (by decide) rfl ZjP (fun _=>rfl) (by kernel_rfl) (fun h=>(by cases h))
theorem ZoV(l m:List Nat)(f:Nat)(h:l.contains f=true):(l++m).contains f=true:=by simp only[List.contains_eq_mem,Zwf,decide_eq_true_eq]at h |-;exact .inl h
theorem ZT:Sub ZK ZM:=⟨rfl,rfl,rfl,rfl,rfl,fun h=>h,fun f h=>ZoV Zd7 _ f h,fun h=>h⟩
end Go.Proofs
namespace Go.Proofs
open Go.Twin
def ZeT:List Nat:=[8,33,10,20,23,30,28,21,22,13,51,49,14,9,11,12,15,16,75,46,48,41,50,31,17,18,19,24,25,26,27,29,56,52,68,65,53,64,66,58,82,57,59,37,38,91,39,93,71,78,42,40,90,67,43,44,45,47,96,97,98,99,76,100,74,79,54,55,60,61,62,63,81,83,84,85,86,80,102,106,107,77,114,101,104,103,115,124,125,138,139]
noncomputable def ZaI:Env:={P:=Tryz.prog,good:=fun f=>ZeT.contains f,glob:=fun _=>false,sh:=true,free:=false,junk:=false,nn:=true,dfr:=fun _=>false,dark:=fun _=>false,tab:=.refuse "#",z0:=true}
theorem ZjR:Strict ZaI:=⟨rfl,rfl,fun _=>rfl,rfl⟩
theorem Zhi:ZaI.Fine:=Zhf ZaI ZeT (fun _=>rfl) (by kernel_rfl) rfl
noncomputable def Zca:Env:={ZaI with free:=true,junk:=true}
theorem ZjS:Zca.Fine:=ZfS Zca ZeT (fun _=>rfl) (by kernel_rfl) (fun _=>rfl) rfl
theorem ZfU:Sub ZaI Zca:=⟨rfl,rfl,rfl,rfl,rfl,fun h=>(by cases h),fun _ h=>h,fun h=>h⟩
theorem ZoW:ZeT.all (ZfR Tryz.prog)=true:=by kernel_rfl
theorem ZoX(tab:Code):(ZaI.run tab).Fine:=ZfS (ZaI.run tab) ZeT (fun _=>rfl) ZoW (fun h=>by cases h) rfl
end Go.Proofs
