import Derived.Test.YthmhdmfahlkpmaaGreatDoorMg1
import Derived.Conc.Beside
set_option linter.all false
set_option maxRecDepth 100000
set_option maxHeartbeats 16000000
namespace Go
def s0:=@Ne.symm
def bQ:=@and_true
def bS:=@Goroutine.mk.injEq
def k8:=@Conc.mem_ofEvents
def lW:=@Conc.Deaf_other
def fX:=@Classical.byContradiction
def A7:=@GStep.go.injEq
def U7:=@Conc.runT_crowd_go
def Y2:=@dif_pos
def iK:=@Conc.woken_quitsD
def oC:=@Array.empty_append
def oD:=@Bool.not_true
def j5:=@Stepped.next.injEq
def oE:=@Nat.eq_zero_or_pos
def qA:=@Prod.mk.injEq
def HM:=@Classical.axiomOfChoice
def qB:=@Array.mem_iff_getElem
def dQ:=@Array.getElem?_eq_none
def bX:=@Array.getElem?_setIfInBounds_self_of_lt
def T':=@Conc.mem_seen
def N1:=@List.map_nil
def gN:=@List.map_toArray
end Go
namespace Go.Twin
open Go.Conc (G)
def Env.ok(E:Env)(c:Code):Prop:=aV c=true/\(E.free=false->E.code c=true)
def Env.ok_of{E:Env} {c:Code} (h:E.code c=true):E.ok c:=⟨jA c h,fun _=>h⟩
abbrev _root_.aG:=Array Oper
abbrev _root_.y0:=List Nat
inductive IR (E:Env)(B:Blk):Item->Item->Prop|code (c:Code) (h:E.ok c):IR E B (.code c) (.code c)|inBlock (id:Nat):IR E B (.inBlock id) (.inBlock id)|inLoop (c:Code) (h:E.ok c):IR E B (.inLoop c) (.inLoop c)|inScope (c:Code) (h:E.ok c):IR E B (.inScope c) (.inScope c)|inRegion (ops:aG) (todo:y0) (h:E.free=false->ops.all (fun o=>E.op o.op)=true):IR E B (.inRegion ops todo) (.inRegion ops todo)|inRangeFunc (l l':Nat) (h:B l l'):IR E B (.inRangeFunc l) (.inRangeFunc l')|endRangeFunc (l l':Nat) (h:B l l'):IR E B (.endRangeFunc l) (.endRangeFunc l')|beginRound:IR E B .beginRound .beginRound|mark:IR E B (.code (.refuse "#")) (.code E.tab)
inductive KR (E:Env)(B:Blk):List Item->List Item->Prop|nil:KR E B [] []|cons (x x':Item) (k k':List Item) (h:IR E B x x') (hs:KR E B k k'):KR E B (x::k) (x'::k')
inductive DR (B:Blk):List Deferred->List Deferred->Prop|nil:DR B [] []|cons (r r':Nat) (k k':List Deferred) (h:B r r') (hs:DR B k k'):DR B ({target:=.collected r,args:=#[]}::k) ({target:=.collected r',args:=#[]}::k')
abbrev _root_.y1:=Frame
def Chk(E:Env)(f:y1):Prop:=match f.todo with|.inRegion ops (i::_)::_=>∀o,ops[i]?=some o->E.op o.op=true|.code (.cond c _ _)::_=>E.operand c=true|.code (.rangeFunc g _ a b)::_=>E.operand g=true/\E.code a=true/\E.code b=true|.code (.goto _)::_=>False|.code (.refuse why)::_=>why≠ "#"|_=>True
def vW(f:y1):Prop:=∃k,f.todo=.code (.refuse "#")::k
structure FR (E:Env)(B:Blk)(f f':y1):Prop where
 fn:f.fn=f'.fn
 tmps:AR E B f.tmps f'.tmps
 todo:KR E B f.todo f'.todo
 defers:DR B f.defers f'.defers
 mode:(f.mode=.run/\f'.mode=.run)∨(f.mode=.returning/\f'.mode=.returning)
 kind:f.kind=.normal/\(f'.kind=.normal∨(E.dfr f.fn=true/\f'.kind=.deferred))
 round:(f.roundOf=none/\f'.roundOf=none)∨∃l l',f.roundOf=some l/\f'.roundOf=some l'/\B l l'
abbrev _root_.hA:=List Frame
inductive ST (E:Env)(B:Blk)(bs bs':hA):List Frame->List Frame->Prop|last (f f':y1) (h:FR E B f f') (hr:f.roundOf=none):ST E B bs bs' (f::bs) (f'::bs')|cons (f f':y1) (cs cs':hA) (h:FR E B f f') (hk:f'.kind=.normal) (hs:ST E B bs bs' cs cs'):ST E B bs bs' (f::cs) (f'::cs')
section
variable {E:Env} {B B':Blk}
def IR.mono(h:B.le B') {x a:Item} (k:IR E B x a):IR E B' x a:=by cases k with|code c hc=>exact .code c hc|inBlock id=>exact .inBlock id|inLoop c hc=>exact .inLoop c hc|inScope c hc=>exact .inScope c hc|inRegion ops todo ho=>exact .inRegion ops todo ho|inRangeFunc l l' hl=>exact .inRangeFunc l l' (h _ _ hl)|endRangeFunc l l' hl=>exact .endRangeFunc l l' (h _ _ hl)|beginRound=>exact .beginRound|mark=>exact .mark
def KR.mono(h:B.le B') {x a:List Item} (k:KR E B x a):KR E B' x a:=by induction k with|nil=>exact .nil|cons x a k k' hx hs ih=>exact .cons _ _ _ _ (hx.mono h) ih
def DR.mono(h:B.le B') {x a:List Deferred} (k:DR B x a):DR B' x a:=by induction k with|nil=>exact .nil|cons r r' k k' hx hs ih=>exact .cons _ _ _ _ (h _ _ hx) ih
def FR.mono(h:B.le B') {f a:y1} (k:FR E B f a):FR E B' f a:=⟨k.fn,k.tmps.mono h,k.todo.mono h,k.defers.mono h,k.mode,k.kind,k.round.imp id fun⟨l,e,b,c,d⟩=>⟨l,e,b,c,h _ _ d⟩⟩
def ST.mono(h:B.le B') {bs C cs r:hA} (k:ST E B bs C cs r):ST E B' bs C cs r:=by induction k with|last f f' hf hr=>exact .last f f' (hf.mono h) hr|cons f f' cs r hf hk hs ih=>exact .cons f f' cs r (hf.mono h) hk ih
def FR.eval{f b:y1} (k:FR E B f b)(c:∀g,E.glob g=true->B g g):Ops E B f.eval b.eval:=by intro x a;cases x with|tmp t=>exact k.tmps.getD t undefR|const v=>exact VR.closed 8 v a|global g=>exact .ptr _ _ (.mk _ _ _ _ (c g a))|func f=>exact Zl (.func f a) AR.empty AR.empty
def FR.chk{f d:y1} (k:FR E B f d)(hF:E.free=false)(g:¬vW f):Chk E f:=by have h:=k.todo;unfold Chk;unfold vW at g;generalize f.todo=x at h g |-;generalize d.todo=e at h;cases h with|nil=>trivial|cons y y' k k' hy hs=>cases hy with
  |code c hc=>have a:=hc.1;have:=hc.2 hF;cases c<;>first
    |trivial|(simpa [aV] using a;done)|(cases this;done)|(simp only[Env.code,aY]at this;first|exact this.1.1|exact⟨this.1.1,this.1.2,this.2⟩)
  |inRegion ops td ho=>cases td with|nil=>trivial|cons i rest=>exact fun o b=>dS.1 (ho hF) o (cP b)
  |mark=>exact absurd ⟨_,rfl⟩ g|_=>trivial
def FR.finish{f o:y1} (k:FR E B f o) {v p:Value} (H:VR E B v p):FR E B (f.finish v) (o.finish p):=by obtain⟨m,e,n,a,j,h,b⟩:=k;obtain⟨t,q,C,A,m1,y,F⟩:=f;obtain⟨u,r,D,d2,m2,z,G⟩:=o;dsimp only at*;cases n with|nil=>exact⟨m,e,.nil,a,j,h,b⟩|cons x x' k k' hx hs=>cases hx with
  |inRegion ops td ho=>cases td with|nil=>exact⟨m,e,.cons _ _ _ _ (.inRegion ops [] ho) hs,a,j,h,b⟩|cons i rest=>refine⟨m,?_,.cons _ _ _ _ (.inRegion ops rest ho) hs,a,j,h,b⟩;show AR E B (match (ops[i]?).bind (·.dst)with|some d=>q.setIfInBounds d v|none=>q) (match (ops[i]?).bind (·.dst)with|some d=>r.setIfInBounds d p|none=>r);cases (ops[i]?).bind (·.dst)with|none=>exact e|some d=>exact e.set d H
  |inRangeFunc l l' hl=>exact⟨m,e,.cons _ _ _ _ (.endRangeFunc l l' hl) hs,a,j,h,b⟩|beginRound=>exact⟨m,e,hs,a,j,h,b⟩|code c hc=>exact⟨m,e,.cons _ _ _ _ (.code c hc) hs,a,j,h,b⟩|inBlock id=>exact⟨m,e,.cons _ _ _ _ (.inBlock id) hs,a,j,h,b⟩|inLoop c hc=>exact⟨m,e,.cons _ _ _ _ (.inLoop c hc) hs,a,j,h,b⟩|inScope c hc=>exact⟨m,e,.cons _ _ _ _ (.inScope c hc) hs,a,j,h,b⟩|endRangeFunc l l' hl=>exact⟨m,e,.cons _ _ _ _ (.endRangeFunc l l' hl) hs,a,j,h,b⟩|mark=>exact⟨m,e,.cons _ _ _ _ .mark hs,a,j,h,b⟩
def gF(f:y1)(v:Value):(f.finish v).roundOf=f.roundOf:=by unfold Frame.finish;split<;>rfl
def Zk9(f:y1)(v:Value):(f.finish v).kind=f.kind:=by unfold Frame.finish;split<;>rfl
def ST.top{bs e cs d:hA} {f a g j:y1} (k:ST E B bs e (f::cs) (a::d)) (h:FR E B' g j) (m:B.le B') (b:g.roundOf=f.roundOf) (l:j.kind=a.kind:=by first|rfl|exact Zk9 _ _):ST E B' bs e (g::cs) (j::d):=by cases k with|last f a hf hr'=>exact .last g j h (b.trans hr')|cons f a cs d hf hk hs=>exact .cons g j cs d h (l.trans hk) (hs.mono m)
def ST.head{bs e cs d:hA} {f a:y1} (k:ST E B bs e (f::cs) (a::d)):FR E B f a:=by cases k with|last f a hf hr'=>exact hf|cons f a cs d hf hk hs=>exact hf
def exitTo_r(a:Nat) {k b:List Item} (h:KR E B k b):(exitTo a k=none/\exitTo a b=none)∨∃r c,exitTo a k=some r/\exitTo a b=some c/\KR E B r c:=by induction h with|nil=>exact .inl ⟨rfl,rfl⟩|cons x x' k b hx hs ih=>cases hx with
  |inBlock id'=>
   simp only[exitTo];split;·exact .inr ⟨_,_,rfl,rfl,hs⟩
   .exact ih|_=>simpa only[exitTo] using ih
def mE(l:World)(f:y1):Prop:=∀d∈f.defers,∃r,d={target:=.collected r,args:=#[]}/\∀a,l.heap[r]?=some (.deferred (some a))->a=[]
inductive Tow (l:World)(bs:hA):List Frame->Prop|last (f:y1)(h:mE l f):Tow l bs (f::bs)|cons (f:y1)(cs:hA)(h:mE l f)(hs:Tow l bs cs):Tow l bs (f::cs)
def PK(l:World)(bs:hA)(f:y1)(cs:hA):Prop:=(∃a,f.mode=.panicking a)/\Tow l bs (f::cs)
def IV{S:Side} {l w s:World} {f t:y1} (h:FR E B f t)(z:B.le B')(g:WR E S B' l w)(A:∀b,b<l.heap.size->s.heap[b]?=l.heap[b]?):mE s f:=by
 have p:∀{e j:List Deferred},DR B e j->∀d∈e,∃r,d={target:=.collected r,args:=#[]}/\∀e,s.heap[r]?=some (.deferred (some e))->e=[]:=by intro e j m;induction m with|nil=>intro d m;cases m|cons r r' k k' hr hs ih=>intro d m;cases m with|tail _ hm=>exact ih d hm|head=>
    refine⟨r,rfl,fun e a=>?_⟩;have i:=z _ _ hr;rw[A r (g.dom _ _ i).1]at a;by_cases q:S r;·obtain⟨c,v,T,x,n,_⟩:=g.shr _ _ i q;rw[n]at a;cases a
    .obtain⟨o,y,n,_,u⟩:=g.obj _ _ i q;rw[n]at a;cases a;cases u;rfl
 exact p h.defers
def zF{S:Side} {l w j:World} {bs d c a:hA} (h:ST E B bs d c a)(e:B.le B')(i:WR E S B' l w)(g:∀b,b<l.heap.size->j.heap[b]?=l.heap[b]?):Tow j bs c:=by induction h with|last f f' hf hr=>exact .last f (IV hf e i g)|cons f f' cs cs' hf _ hs ih=>exact .cons f cs (IV hf e i g) ih
def zG{l:World} {bs cs:hA} {f g:y1} (h:Tow l bs (f::cs))(e:g.defers=f.defers):Tow l bs (g::cs):=by cases h with|last f h=>exact .last g (fun d a=>h d (e▸a))|cons f cs h hs=>exact .cons g cs (fun d a=>h d (e▸a)) hs
def eO(E:Env)(S:Side)(B:Blk)(bs g:hA)(l w:World)(i h:GStep):Prop:=match i with|.ended ..=>True|.go g' l' _=>(∃f cs,g'=G f cs/\PK l' bs f cs)∨∃f cs d c j a B' b,g'=G f cs/\h=.go (G d c) j a/\Ran E S B l w B' l' j b/\ST E B' bs g (f::cs) (d::c)/\∀e∈a,e∈b|_=>False
def SR.both{α β:Type} {S:Side} {Q:Blk->α->β->Prop} {s:Sem α} {j:Sem β} (h:SR E Q B s j) {l w:World} (q:WR E S B l w)(g:∀b,S b->b<l.heap.size)(e:eJ S l.drawn (left (s.run E.P l)).drawn):match s.run E.P l with|.ok a l'=>∃B' b f c,j.run E.P w=.ok b f/\j.events E.P w #[]=c/\Ran E S B l w B' l' f c/\Q B' a b|.halt x l'=>Halt.quiet x/\∃m i p c,Ran E S B l w m i p c/\∀b,b<i.heap.size->l'.heap[b]?=i.heap[b]?:=by have:=h.run l w #[] q g;unfold MB at this;cases k:s.run E.P l with|halt x l'=>rw[k]at this e;exact this e|ok a l'=>rw[k]at this e;obtain⟨B',b,f,c,d,n,o⟩:=this e;rw[Sem.runT_eq]at d;simp only[qA,oC]at d;exact⟨B',b,f,c,d.1,d.2,n,o⟩
def ZF(e:E.Fine) {f:FuncId} (j:E.good f=true) {i g:bJ} (h:AR E B i g):FR E B (Frame.enter E.P f i .normal) (Frame.enter E.P f g .normal):=by
 refine⟨rfl,?_,?_,.nil,.inl ⟨rfl,rfl⟩,⟨rfl,.inl rfl⟩,.inl ⟨rfl,rfl⟩⟩;·show AR E B (i++Array.replicate _ undef) (g++Array.replicate _ undef);rw[h.size];exact h.append (AR.replicate _ undefR)
 .refine .cons _ _ _ _ (.code _ ?_) .nil;cases b:E.P.funcs[f]? with
  |none=>exact⟨rfl,fun _=>rfl⟩|some fn=>cases a:fn.body with|none=>exact⟨by simp[a];rfl,fun _=>by simp[a];rfl⟩|some c=>exact⟨by simpa [a] using e.mark f fn c j b a,fun d=>by simpa [a] using e.code d f fn c j b a⟩
def PU{f:y1} (h:∀c,f.mode≠.panicking c)(b:List PanicEntry):f.raise b={f with mode:=.panicking b}:=by unfold Frame.raise;cases a:f.mode with|panicking c=>exact absurd a (h c)|_=>rfl
def FR.noPanic{f a:y1} (k:FR E B f a):(∀c,f.mode≠.panicking c)/\∀c,a.mode≠.panicking c:=by rcases k.mode with⟨b,d⟩|⟨b,d⟩<;>rw[b,d]<;>exact⟨Qd,Qd⟩
def HN(D:E.Fine) {S:Side} {bs V cs U:hA} {f m:y1} {l w:World} {s H:Sem Next} (X:SR E (QN E) B s H) (o:ST E B bs V (f::cs) (m::U)) (Z:WR E S B l w) (Y:∀b,S b->b<l.heap.size) (K:eJ S l.drawn (left (s.run E.P l)).drawn):eO E S B bs V l w (stepG.apply E.P true f cs none s l) (stepG.apply E.P true m U none H w):=by
 have q:=X.both Z Y K;have hF:=o.head;have M:(f.kind==CallKind.early)=false:=by rw[hF.kind.1];rfl
 have A:(m.kind==CallKind.early)=false:=by rcases hF.kind.2 with h|⟨_,h⟩<;>rw[h]<;>rfl
 have d:∀{B':Blk} {g g':y1},B.le B'->FR E B' g g'->g'.kind=.normal->ST E B' bs V (g::f::cs) (g'::m::U):=fun J r C=>.cons _ _ _ _ r C (o.mono J);have a:∀{P:aA} {fn:FuncId} {es c:Array Event},es=c->∀e∈seen P fn es++#[],e∈c:=by intro P fn es c L e h;rw[Q']at h;exact L▸T' h
 unfold stepG.apply;simp only[ZyJ,Sem.runT_eq,M,A,ZyI,nK];cases G:s.run E.P l with
 |ok nx l'=>rw[G]at q;obtain⟨B',R,W,c,p,z,j,I⟩:=q;rw[p,z];cases I with
  |value v v' hv=>exact .inr ⟨f.finish v,cs,m.finish v',U,W,_,B',c,rfl,rfl,j,o.top ((hF.mono j.le).finish hv) j.le (gF _ _),a rfl⟩|skip=>exact .inr ⟨f.finish undef,cs,m.finish undef,U,W,_,B',c,rfl,rfl,j,o.top ((hF.mono j.le).finish undefR) j.le (gF _ _),a rfl⟩|enter g xs xs' r hx=>refine .inr ⟨_,f::cs,_,m::U,W,_,B',c,rfl,rfl,j,d j.le ?_ ?_,a rfl⟩;all_goals have n:=hF.todo;generalize f.todo=k at n |-;generalize m.todo=N at n |-;cases n with
    |nil=>first|exact ZF D r hx|rfl
    |cons y y' k N hy X=>cases hy<;>first|exact ZF D r hx|rfl
  |round i i' g t t' aq body hi ht ha hbd=>refine .inr ⟨Frame.round i g t aq body .normal,f::cs,Frame.round i' g t' aq body .normal,m::U,W,_,B',c,rfl,rfl,j,d j.le ?_ rfl,a rfl⟩;exact⟨rfl,ht,.cons _ _ _ _ (.code _ (E.ok_of ha)) (.cons _ _ _ _ .beginRound (.cons _ _ _ _ (.code _ (E.ok_of hbd)) .nil)),.nil,.inl ⟨rfl,rfl⟩,⟨rfl,.inl rfl⟩,.inr ⟨i,i',rfl,rfl,hi⟩⟩
 |halt x l'=>rw[G]at q;obtain⟨F,O,Q,T,c,p,z⟩:=q;cases x with
  |stuck _=>exact trivial|unsupported u=>cases u<;>first|exact trivial|exact F.elim
  |panic v=>refine .inl ⟨f.raise [{v,recovered:=false}],cs,rfl,?_⟩;rw[PU hF.noPanic.1];exact⟨⟨_,rfl⟩,zG (zF o p.le p.wr z) rfl⟩|_=>exact F.elim
end
section
variable {E:Env} {B B':Blk} {S:Side} {bs bs' cs cs':hA} {l w:World}
def FR.withTodo{f a:y1} (h:FR E B f a) {k b:List Item} (c:KR E B k b):FR E B {f with todo:=k} {a with todo:=b}:=⟨h.fn,h.tmps,c,h.defers,h.mode,h.kind,h.round⟩
def M6{f a g d:y1} (b:ST E B bs bs' (f::cs) (a::cs')) (j:WR E S B l w) (h:FR E B g d) (c:g.roundOf=f.roundOf) (i:d.kind=a.kind:=by first|rfl|exact Zk9 _ _):eO E S B bs bs' l w (.go (G g cs) l) (.go (G d cs') w):=.inr ⟨g,cs,d,cs',w,#[],B,#[],rfl,rfl,.refl j,b.top h (Blk.le_refl _) c i,fun e h=>h⟩
def Zk{k:Blk} {y z:World} {b:Array Event} {j m:GStep} (A:Ran E S B l w k y z b) (h:eO E S k bs bs' y z j m) {s a:Array Event} (v:∀e∈a,e∈b):eO E S B bs bs' l w (GStep.after s j) (GStep.after a m):=by cases j with
 |ended o x s=>exact trivial|go g x es0=>
  rcases h with⟨f,cs,d,i⟩|⟨f,cs,q,p,C,c,B',n,d,i,r,t,u⟩;·exact .inl ⟨f,cs,d,i⟩
  .subst i;exact .inr ⟨f,cs,q,p,C,a++c,B',b++n,d,rfl,A.trans r,t,fun e h=>(mZ.1 h).elim (fun h=>mZ.2 (.inl (v e h))) fun h=>mZ.2 (.inr (u e h))⟩|_=>exact h.elim
def tP{f d c b:y1} {j i:Bool} (e:ST E B bs bs' (c::cs) (b::cs')) (m:WR E S B l w) (g:f.kind=.normal) (a:d.kind=.normal) {v h:Value} (k:VR E B v h):eO E S B bs bs' l w (doReturn E.P j f (c::cs) none v l) (doReturn E.P i d (b::cs') none h w):=by unfold doReturn;rw[g,a];exact M6 e m (e.head.finish k) (gF _ _)
def j6{r b:Nat} (h:B r b):SR E (fun B (x y:Loop)=>OR E B (.loop x) (.loop y)) B (Instr.getLoop r) (Instr.getLoop b):=by
 unfold Instr.getLoop;refine Za (iJ h) fun d o i e a=>?_;have c:=a;cases a<;>try exact SR.halt _ (.stuck _) _ trivial
 exact Zy c
def PV{r b:Nat} (h:B r b) {a:Option Code} (i:∀c,a=some c->E.code c=true):SR E (QV E) B (Instr.endRound r a) (Instr.endRound b a):=by unfold Instr.endRound;refine Za (j6 h) fun k x y e j=>?_;cases j with|loop s p f t t' ps aq body d d' hp ht ha hb hd=>refine Za (CB (e _ _ h) (.loop _ _ _ _ _ _ _ _ _ _ i ht ha hb hd)) fun m _ _ n _=>?_;exact Zy (.bool _)
def PW{r a:Nat} (h:B r a):SR E QU B (Instr.beginRound r) (Instr.beginRound a):=by unfold Instr.beginRound;refine Za (j6 h) fun e x y b c=>?_;cases c with|loop s p f t t' ps aq body d d' hp ht ha hb hd=>refine Za (CB (b _ _ h) (.loop _ _ _ _ _ _ _ _ _ _ hp ht ha hb hd)) fun i _ _ j _=>?_;cases s<;>first|exact Zy trivial|exact dE trivial
def IW{r e:Nat} (h:B r e):SR E (fun _ a b=>a=b/\∀c,a=some c->E.code c=true) B (Instr.endLoop r) (Instr.endLoop e):=by unfold Instr.endLoop;refine Za (j6 h) fun k x y i j=>?_;cases j with|loop s p f t t' ps aq body d d' hp ht ha hb hd=>dsimp only;refine bE (fun _=>oB _ trivial) fun _=>?_;refine Za (CB (i _ _ h) (.loop _ _ _ _ _ _ _ _ _ _ hp ht ha hb hd)) fun m _ _ n _=>?_;exact Zy ⟨rfl,hp⟩
def PX(fn:FuncId) {t A:bJ} (z:AR E B t A)(G:Array Tmp)(h f:Code)(g:E.code h=true)(s:E.code f=true) {p d:hB} (m:(p=none/\d=none)∨∃r o,p=some r/\d=some o/\B r o):SR E (fun B (x y:Nat×List Deferred)=>B x.1 y.1/\DR B x.2 y.2) B (Instr.enterLoop fn t G h f p) (Instr.enterLoop fn A G h f d):=by
 unfold Instr.enterLoop;rcases m with⟨rfl,rfl⟩|⟨r,o,rfl,rfl,m⟩
 .dsimp only;refine Za (X6 .deferred) fun q x y i e=>?_;refine Za (Q:=fun B (a b:Nat×List Deferred)=>B a.1 b.1/\DR B a.2 b.2) (Zy ⟨e,.cons _ _ _ _ e .nil⟩) fun C a b j c=>?_;refine Za (X6 (.loop _ _ _ _ _ _ _ _ _ _ Qd ((z.mono i).mono j) g s c.1)) fun D u v k n=>?_;exact Zy ⟨n,c.2.mono k⟩
 .dsimp only;refine Za (j6 m) fun q x y i e=>?_;have F:q x.defers y.defers:=by cases e;assumption
  refine Za (Q:=fun B (a b:Nat×List Deferred)=>B a.1 b.1/\DR B a.2 b.2) (Zy ⟨F,.nil⟩) fun C a b j c=>?_;refine Za (X6 (.loop _ _ _ _ _ _ _ _ _ _ Qd ((z.mono i).mono j) g s c.1)) fun D u v k n=>?_;exact Zy ⟨n,c.2.mono k⟩
def PY{r c:Nat} (h:B r c):SR E (fun _ a b=>a=[]/\b=[]) B (Instr.takeDeferred r) (Instr.takeDeferred c):=by
 unfold Instr.takeDeferred;refine Za (iJ h) fun i o m d e=>?_;cases e<;>try exact SR.halt _ (.stuck _) _ trivial
 exact Za (CB (d _ _ h) .taken) fun j _ _ k _=>Zy ⟨rfl,rfl⟩
def C4(fn:Func) {t i:bJ} (d:AR E B t i):SR E (QV E) B (results fn t) (results fn i):=by
 unfold results;simp only[pW];have o:∀(e:List ResultVar)(B:Blk),AR E B t i->SR E (fun B a b=>LR E B a b) B (e.mapM fun|.tmp j=>Pure.pure (t.getD j undef)|.cell a ty=>do loadVar ty (<-asAddr (t.getD a undef)))
   (e.mapM fun|.tmp j=>Pure.pure (i.getD j undef)|.cell a ty=>do loadVar ty (<-asAddr (i.getD a undef))):=by intro e;induction e with|nil=>intro B d;simp only[iH];exact Zy .nil|cons r e ih=>
   intro B d;simp only[iG];refine Za (Q:=QV E) ?_ fun k v C m u=>?_;·cases r with|tmp j=>exact Zy (d.getD j undefR)|cell a ty=>exact Za (vN (d.getD a undefR)) fun k x y m z=>yZ ty z
   .refine Za (ih k (d.mono m)) fun A a b q c=>?_;exact Zy (.cons _ _ _ _ (u.mono q) c)
 refine Za (Q:=fun B (a b:bJ)=>AR E B a b) (Za (o _ B d) fun k a b m c=>Zy c.array) fun k a b m c=>?_;have p:=c.size;by_cases h:a.size=1;·have n:b.size=1:=p▸h;rw[Y2 h,Y2 n];exact Zy (c.at_ 0 _ _ (e3 Qa) (e3 Qa))
 .have n:¬b.size=1:=p▸h;rw[dif_neg h,dif_neg n];exact Zy (Zh c)
end
variable {es:Array Event} {s:GStep} {g:Goroutine} {w w' l l₀:World} {P:aA} {fr f:y1} {cs:hA} {dy:Option Dying} {S:Side}
def zH{e:Array Event} (h:GStep.after es s=.go g w e):∃a,s=.go g w a:=by cases s<;>simp[GStep.after]at h;exact⟨_,by rw[h.1,h.2.1]⟩
def oF{α:Type} {s:Sem α} {a:α} (h:s.run P w=.ok a w'):w.drawn<=w'.drawn:=by have:=pZ P s w;rw[h]at this;exact this
def PZ{n:Nat} (h:early P fr cs dy n w=.go g w' es):w.drawn<=w'.drawn:=by
 unfold early at h;dsimp only at h;repeat' split at h
 all_goals first
  |(cases h;done)|(cases h;exact sW _)|(cases h;exact oF (by assumption))|(cases h;simp only;exact oF (by assumption))
def P4{m:String} (h:endFatal P fr cs dy m w=.go g w' es):w.drawn<=w'.drawn:=by
 unfold endFatal at h;dsimp only at h;split at h;·unfold dieOf at h;cases h;exact oF (by assumption)
 .cases h
 .cases h
def P7{s:Sem Next} (h:stepG.apply P true f cs none s l=.go g w' es):(left (s.run P l)).drawn<=w'.drawn:=by unfold stepG.apply at h;simp only[ZyJ,Sem.runT_eq]at h;obtain⟨b,h⟩:=zH h;cases a:s.run P l with
 |ok nx l'=>
  rw[a]at h;cases nx<;>first
   |(cases h;exact sW _)|(cases h;done)|skip
  all_goals
   dsimp only at h;repeat' split at h
   all_goals first
    |(cases h;exact sW _)|(cases h;done)|(unfold endThrow dieOf at h;cases h;exact sW _)
 |halt x l'=>
  rw[a]at h;cases x<;>first
   |(cases h;exact sW _)|(cases h;done)|exact P4 h|(unfold endThrow dieOf at h;cases h;exact sW _)|skip
  rename_i u;cases u<;>first|exact PZ h|(cases h;done)
def eH(S:Side)(l:World)(b:GStep):Prop:=(∀j,S.till j)∨∃g a es,b=.go g a es/\eJ S l.drawn a.drawn
def eH.after(h:eH S l (GStep.after es s)):eH S l s:=by
 rcases h with h|⟨g,i,e,b,c⟩;·exact .inl h
 .obtain⟨a,d⟩:=zH b;exact .inr ⟨g,i,a,d,c⟩
def eH.apply{s:Sem Next} (h:eH S l₀ (stepG.apply P true f cs none s l))(d:l₀.drawn<=l.drawn):eJ S l.drawn (left (s.run P l)).drawn/\eJ S l₀.drawn l.drawn:=by
 rcases h with h|⟨g,i,e,b,a⟩;·exact⟨fun j _ _=>h j,fun j _ _=>h j⟩
 .have:=P7 b;have c:=pZ P s l;exact⟨a.sub d this,a.sub (sW _) (h9 c this)⟩
def eH.doReturn{m:Bool} {v:Value} (h:eH S l₀ (doReturn P m f cs none v l)):eJ S l₀.drawn l.drawn:=by
 rcases h with h|⟨g,c,e,a,b⟩;·exact fun j _ _=>h j
 .unfold Go.doReturn at a;have:c=l:=by
   dsimp only at a;repeat' split at a
   all_goals first
    |(cases a;rfl)|(cases a;done)
  exact this▸b
def eH.go{c:World} (h:eH S l (.go g c es)):eJ S l.drawn c.drawn:=by
 rcases h with h|⟨g,c,e,a,b⟩;·exact fun j _ _=>h j
 .cases a;exact b
section
variable {E:Env} {B B':Blk} {S:Side} {bs bs' cs cs':hA} {l w:World}
def IX:∀{a a' b b':List Deferred},DR B a a'->DR B b b'->DR B (a++b) (a'++b')|_,_,_,_,.nil,h=>h|_,_,_,_,.cons r r' k k' hx hs,h=>.cons r r' _ _ hx (IX hs h)
def HO{f h:y1} (p:ST E B bs bs' (f::cs) (h::cs')) (N:WR E S B l w) (O:∀b,S b->b<l.heap.size) {z I:Bool} (d:Option Code) (n A:String):(∀c,d=some c->E.code c=true)->eH S l (match f.roundOf with|none=>if (match d with|none=>true|some .ret=>true|_=>false)=true then .go (G {f with mode:=.returning} cs) l else .ended (.stuck "exit, goto: no such block or label" n) l|some i=>GStep.after (seen E.P f.fn ((Instr.endRound i d).runT E.P l #[]).2) (match ((Instr.endRound i d).runT E.P l #[]).1 with|.ok v w=>doReturn E.P z f cs none v w|.halt _ w=>.ended (.stuck "range over a function: no such loop" n) w))->eO E S B bs bs' l w (match f.roundOf with
    |none=>if (match d with|none=>true|some .ret=>true|_=>false)=true then .go (G {f with mode:=.returning} cs) l else .ended (.stuck "exit, goto: no such block or label" n) l|some i=>GStep.after (seen E.P f.fn ((Instr.endRound i d).runT E.P l #[]).2) (match ((Instr.endRound i d).runT E.P l #[]).1 with
     |.ok v w=>doReturn E.P z f cs none v w|.halt _ w=>.ended (.stuck "range over a function: no such loop" n) w))
   (match h.roundOf with|none=>if (match d with|none=>true|some .ret=>true|_=>false)=true then .go (G {h with mode:=.returning} cs') w else .ended (.stuck "exit, goto: no such block or label" A) w|some i=>GStep.after (seen E.P h.fn ((Instr.endRound i d).runT E.P w #[]).2) (match ((Instr.endRound i d).runT E.P w #[]).1 with
     |.ok v w=>doReturn E.P I h cs' none v w|.halt _ w=>.ended (.stuck "range over a function: no such loop" A) w)):=by
 intro y;have hF:=p.head;rcases hF.round with⟨k,o⟩|⟨i,L,k,o,H⟩
 .rw[k,o];clear y;intro _;have t:eO E S B bs bs' l w (.go (G {fn:=f.fn,tmps:=f.tmps,todo:=f.todo,defers:=f.defers,mode:=.returning,kind:=f.kind} cs) l) (.go (G {fn:=h.fn,tmps:=h.tmps,todo:=h.todo,defers:=h.defers,mode:=.returning,kind:=h.kind} cs') w):=M6 p N ⟨hF.fn,hF.tmps,hF.todo,hF.defers,.inr ⟨rfl,rfl⟩,hF.kind,.inl ⟨rfl,rfl⟩⟩ k.symm;rcases d with _|c;·exact t
  .cases c<;>first|exact t|exact trivial
 .rw[k,o];dsimp only;simp only[Sem.runT_eq];intro m;replace m:=m.after;cases q:(Instr.endRound i d).run E.P l with|halt x l'=>exact trivial|ok v l'=>rw[q]at m;have u:=(PV H y).both N O (by rw[q];exact m.doReturn);rw[q]at u;obtain⟨K,M,w',J,C,D,j,r⟩:=u;rw[C,D];refine Zk j ?_ fun e F=>T' F;cases p with|last f h hf hr'=>rw[k]at hr';cases hr'|cons f h cs cs' hf hkn hs=>cases hs with|last c c' hc hr'=>exact tP (.last _ _ (hc.mono j.le) hr') j.wr hF.kind.1 hkn r|cons c c' cs cs' hc hkc hs=>exact tP (.cons _ _ _ _ (hc.mono j.le) hkc (hs.mono j.le)) j.wr hF.kind.1 hkn r
def P8(Y:E.Fine) {f f':y1} (m:ST E B bs bs' (f::cs) (f'::cs')) (hw:WR E S B l w) (hS:∀b,S b->b<l.heap.size) (ml ma:Bool) (hm:f.mode=.run) (aD:f'.mode=.run) (hC:Chk E f):eH S l (stepG.exec E.P ml true f cs none l)->eO E S B bs bs' l w (stepG.exec E.P ml true f cs none l) (stepG.exec E.P ma true f' cs' none w):=by have hF:=m.head;have aA:=hF.eval hw.glob;have hK:=hF.todo;unfold stepG.exec;obtain⟨I,tm,k,ds,md,kd,rd⟩:=f;obtain⟨aI,L,k',O,aS,aF,aH⟩:=f';dsimp only at hm aD;subst hm aD;dsimp only at hK;cases hK with|nil=>exact HO m hw hS none _ _ Qd|cons x x' k k' hx hs=>cases hx with
  |inBlock id=>exact fun _=>M6 m hw (hF.withTodo hs) rfl|inLoop c q=>exact fun _=>M6 m hw (hF.withTodo (.cons _ _ _ _ (.code c q) (.cons _ _ _ _ (.inLoop c q) hs))) rfl|inScope c q=>exact fun _=>M6 m hw (hF.withTodo hs) rfl|inRangeFunc i V K=>exact fun _=>trivial|mark=>exact absurd rfl hC|beginRound=>
   intro p;refine HN Y (?_:SR E (QN E) B _ _) m hw hS (p.apply (sW _)).1;clear p;rcases hF.round with⟨n,u⟩|⟨i,V,n,u,K⟩;·dsimp only at n u;subst n u;exact SR.halt _ (.stuck _) _ trivial
   .dsimp only at n u;subst n u;exact Za (PW K) fun M _ _ n _=>Zy .skip|endRangeFunc i V K=>simp only[Sem.runT_eq];intro p;replace p:=p.after;cases H:(Instr.endLoop i).run E.P l with
   |halt x l'=>
    rw[H]at p;by_cases hx:∃v,x=.panic v;case neg=>cases x<;>first|exact trivial|exact absurd ⟨_,rfl⟩ hx
    obtain⟨v,rfl⟩:=hx;have D:=(IW K).both hw hS (by rw[H];exact p.go);rw[H]at D;obtain⟨hq,B₁,l₁,w₁,aG,n,u⟩:=D;exact .inl ⟨_,cs,rfl,⟨_,rfl⟩,zG (zF m n.le n.wr u) rfl⟩|ok jump l'=>
    rw[H]at p;have D:=(IW K).both hw hS (by rw[H];exact p.go);rw[H]at D;obtain⟨M,aR,w',aG,g1,g2,A,rfl,hj⟩:=D;rw[g1,g2];have aL:KR E M ((jump.map Item.code).toList++k) ((jump.map Item.code).toList++k'):=by cases jump with
     |none=>exact hs.mono A.le|some c=>exact .cons _ _ _ _ (.code c (E.ok_of (hj c rfl))) (hs.mono A.le)
    have aJ:=(hF.mono A.le).withTodo aL;refine Zk A ?_ fun e he=>T' he;exact M6 (m.mono A.le) A.wr aJ rfl
  |inRegion ops td ho=>cases td with
   |nil=>exact fun _=>M6 m hw (hF.withTodo hs) rfl|cons i rest=>
    have ey:yielded ops tm=yielded ops L:=by funext j;unfold yielded;cases Z:(ops[j]?).bind (·.dst)with|none=>rfl|some d=>have hA:=hF.tmps;dsimp only at hA;simp only[B5];cases J:tm[d]? with|none=>rw[hA.none J]|some v=>obtain⟨v',n,u⟩:=hA.get J;rw[n];cases u<;>first|rfl|(rename_i D;cases v'<;>first|rfl|(cases D;done))
    dsimp only;rw[ey];by_cases z:((ops[i]?).map (Region.wanted · (yielded ops L))).getD false=true;·rw[Zde z,Zde z];unfold stepG.oper Frame.oper?;dsimp only;cases aM:ops[i]? with
     |none=>exact fun _=>trivial|some o=>
      have U:E.op o.op=true:=hC o aM;have nd:∀c,o.op≠.defer c:=fun c q=>by rw[q]at U;simp[Env.op,Env.op0,Env.darkOp]at U
      dsimp only;have hA:=fun p=>HN Y (p9 Y aA (fun g _=>rfl) U) m hw hS p;split;·rename_i h;exact absurd h (nd _)
      .split;·rename_i h;exact absurd h (nd _)
       .exact fun p=>hA (p.apply (sW _)).1
    .rw[q' z,q' z];exact fun _=>M6 m hw (hF.finish undefR) (gF _ _)
  |code c q=>cases c with
   |skip=>exact fun _=>M6 m hw (hF.withTodo hs) rfl|label i=>exact fun _=>M6 m hw (hF.withTodo hs) rfl|ret=>exact HO m hw hS (some .ret) _ _ (fun c q=>by cases q;rfl)|refuse why=>exact fun _=>trivial|goto i=>exact hC.elim|exit id=>
    rcases exitTo_r id hs with⟨n,u⟩|⟨r,r',n,u,h3⟩;·dsimp only;rw[n,u];exact HO m hw hS (some (.exit id)) _ _ (fun c q=>by cases q;rfl)
    .dsimp only;rw[n,u];exact fun _=>M6 m hw (hF.withTodo h3) rfl|region id ops draw=>have ho:E.free=false->ops.all (fun o=>E.op o.op)=true:=q.2;cases draw with
    |false=>exact fun _=>M6 m hw (hF.withTodo (.cons _ _ _ _ (.inRegion ops _ ho) hs)) rfl|true=>
     have C:=hF.fn;dsimp only at C;subst C;have hR:=Zr hw;have n:∀W:World,(choose (.order I id)).run E.P W=.ok (W.tape W.drawn (.order I id)) {W with drawn:=W.drawn+1}:=fun W=>by simp[choose,Sem.run,Question.forced,Question.cut]
     simp only[oD,ZyI,nK,n];intro p;have e:=hw.str 0 (.order I id) (p.go l.drawn (sW _) Qd);simp only[w7]at e;rw[e];exact .inr ⟨_,cs,_,cs',_,#[],B,#[],rfl,rfl,hR,m.top (hF.withTodo (.cons _ _ _ _ (.inRegion ops _ ho) hs)) (Blk.le_refl _) rfl,fun e h=>h⟩
   |seq a b=>
    have T:=q.1;have G:=fun F=>by have:=q.2 F;simp only[Env.code,aY]at this;exact this
    simp only[aV,aY]at T;exact fun _=>M6 m hw (hF.withTodo (.cons _ _ _ _ (.code a ⟨T.1,fun F=>(G F).1⟩) (.cons _ _ _ _ (.code b ⟨T.2,fun F=>(G F).2⟩) hs))) rfl|cond c a b=>
    have T:=q.1;have G:=fun F=>by have:=q.2 F;simp only[Env.code,aY]at this;exact this
    simp only[aV,aY]at T;have h0:E.operand c=true:=hC;have n:E.ok a:=⟨T.1,fun F=>(G F).1.2⟩;have u:E.ok b:=⟨T.2,fun F=>(G F).2⟩;have J:=aA c h0;dsimp only;generalize Frame.eval _ c=v at J |-;generalize Frame.eval _ c=v' at J |-;cases J<;>try exact fun _=>trivial
    rename_i t;intro _;refine M6 m hw (hF.withTodo (.cons _ _ _ _ ?_ hs)) rfl;cases t;·exact .code b u
    .exact .code a n|block id c=>exact fun _=>M6 m hw (hF.withTodo (.cons _ _ _ _ (.code c q) (.cons _ _ _ _ (.inBlock id) hs))) rfl|loop c=>exact fun _=>M6 m hw (hF.withTodo (.cons _ _ _ _ (.code c q) (.cons _ _ _ _ (.inLoop c q) hs))) rfl|scope c=>exact fun _=>M6 m hw (hF.withTodo (.cons _ _ _ _ (.code c q) (.cons _ _ _ _ (.inScope c q) hs))) rfl|rangeFunc g ps aq body=>obtain⟨h0,n,u⟩:=hC;have C:=hF.fn;dsimp only at C;subst C;simp only[Sem.runT_eq];intro p;replace p:=p.after;cases H:(Instr.enterLoop I tm ps aq body rd).run E.P l with|halt x l'=>exact trivial|ok y l'=>
     rw[H]at p;have hm:=oF H;have D:=(PX I hF.tmps ps aq body n u hF.round).both hw hS (by dsimp only;rw[H];exact(p.apply hm).2);dsimp only at D;rw[H]at D;obtain⟨M,y',w',aG,g1,g2,A,g4⟩:=D;rw[g1,g2];obtain⟨i,mk⟩:=y;obtain⟨V,X⟩:=y';obtain⟨K,aE⟩:=g4;dsimp only at K aE |-;have aC:DR M (mk++ds) (X++O):=by exact IX aE (hF.defers.mono A.le)
     have aB:FR E M ⟨I,tm,.inRangeFunc i::k,mk++ds,.run,kd,rd⟩ ⟨I,L,.inRangeFunc V::k',X++O,.run,aF,aH⟩:=by have R:=hF.mono A.le;exact⟨rfl,R.tmps,.cons _ _ _ _ (.inRangeFunc i V K) (hs.mono A.le),aC,.inl ⟨rfl,rfl⟩,R.kind,R.round⟩
     have aK:ST E M bs bs' (⟨I,tm,.inRangeFunc i::k,mk++ds,.run,kd,rd⟩::cs) (⟨I,L,.inRangeFunc V::k',X++O,.run,aF,aH⟩::cs'):=m.top aB A.le rfl;refine Zk A (HN Y (?_:SR E (QN E) M _ _) aK A.wr (fun b D=>h8 (hS b D) A.size.2.1) (p.apply hm).1) fun e he=>T' he;have J:=aB.eval A.wr.glob g h0;have hy:AR E M #[.func (.yield i) #[] #[]] #[.func (.yield V) #[] #[]]:=AR.one (Zl (.yield _ _ K) AR.empty AR.empty);unfold resolve;dsimp only;simp only[gN,M1,N1];generalize Frame.eval _ g=v at J |-;generalize Frame.eval _ g=v' at J |-;unfold Deferred.ofValue;cases J<;>try exact SR.halt _ (.stuck _) _ trivial
     .rename_i I aI ys aT zs aU C aN aO aP aQ;refine Za (Q:=fun B (d N:Deferred)=>TR E B d.target N.target/\AR E B d.args N.args) (Zy ⟨?_,AR.append ⟨aN,aO⟩ hy⟩) fun B2 d N u Z=>vU Y Z.1 Z.2;cases C with
      |func f F=>exact .func f _ _ F ⟨aP,aQ⟩|yield l l' hl=>exact .yield l l' _ _ hl
     .exact Za (Q:=fun B (d N:Deferred)=>TR E B d.target N.target/\AR E B d.args N.args) (Zy ⟨.nil,hy⟩) fun B2 d N u Z=>vU Y Z.1 Z.2
def P'{f o:y1} (H:ST E B bs bs' (f::cs) (o::cs')) (hw:WR E S B l w) (hS:∀b,S b->b<l.heap.size) (I Q:Bool) (hm:f.mode=.returning) (t:o.mode=.returning)(d:f.defers=[]->ST E B bs bs' cs cs'/\o.kind=.normal):eH S l (unwind E.P I f cs none l)->eO E S B bs bs' l w (unwind E.P I f cs none l) (unwind E.P Q o cs' none w):=by have hF:=H.head;have G:=hF.defers;unfold unwind;obtain⟨L,U,k,X,md,Z,rd⟩:=f;obtain⟨M,V,Y,K,R,O,T⟩:=o;dsimp only at hm t G d;subst hm t;have q:=hF.fn;dsimp only at q;subst q;cases G with
 |nil=>obtain⟨p,m⟩:=d rfl;dsimp only;cases N:E.P.funcs[L]? with
  |none=>dsimp only;intro _;cases p with
   |last c c' hc hr'=>exact tP (.last _ _ hc hr') hw hF.kind.1 m (hF.tmps.getD 0 undefR)|cons c c' cs cs' hc hkc hs=>exact tP (.cons _ _ _ _ hc hkc hs) hw hF.kind.1 m (hF.tmps.getD 0 undefR)
  |some F=>dsimp only;simp only[Sem.runT_eq];intro j;replace j:=j.after;cases u:(results F U).run E.P l with|halt x l'=>cases x<;>exact trivial|ok v l'=>rw[u]at j;have n:=(C4 F hF.tmps).both hw hS (by dsimp only;rw[u];exact j.doReturn);dsimp only at n;rw[u]at n;obtain⟨J,W,w',C,y,z,a,D⟩:=n;rw[y,z];refine Zk a ?_ fun e A=>T' A;cases p with|last c c' hc hr'=>exact tP (.last _ _ (hc.mono a.le) hr') a.wr hF.kind.1 m D|cons c c' cs cs' hc hkc hs=>exact tP (.cons _ _ _ _ (hc.mono a.le) hkc (hs.mono a.le)) a.wr hF.kind.1 m D
 |cons r r' k1 k1' u hs=>simp only[Sem.runT_eq];intro j;replace j:=j.after;cases h:(Instr.takeDeferred r).run E.P l with|halt x l'=>exact trivial|ok v l'=>rw[h]at j;have n:=(PY u).both hw hS (by rw[h];exact j.go);rw[h]at n;obtain⟨J,W,w',C,y,z,a,rfl,rfl⟩:=n;rw[y,z];refine Zk a ?_ fun e A=>T' A;have i:=hF.mono a.le;refine M6 (H.mono a.le) a.wr ⟨rfl,i.tmps,i.todo,?_,.inr ⟨rfl,rfl⟩,i.kind,i.round⟩ rfl;simpa using hs.mono a.le
def C6(o:E.Fine) {f c:y1} (m:ST E B bs bs' (f::cs) (c::cs')) (q:WR E S B l w) (p:∀b,S b->b<l.heap.size) (a h:Bool)(n:f.mode=.run->Chk E f) (e:f.mode=.returning->f.defers=[]->ST E B bs bs' cs cs'/\c.kind=.normal):eH S l (stepG E.P a (G f cs) l)->eO E S B bs bs' l w (stepG E.P a (G f cs) l) (stepG E.P h (G c cs') w):=by
 rcases m.head.mode with⟨d,i⟩|⟨d,i⟩
 .have j:stepG E.P a (G f cs) l=stepG.exec E.P a true f cs none l:=by simp[stepG,G,d]
  have k:stepG E.P h (G c cs') w=stepG.exec E.P h true c cs' none w:=by simp[stepG,G,i]
  rw[j,k];exact P8 o m q p a h d i (n d)
 .have j:stepG E.P a (G f cs) l=unwind E.P a f cs none l:=by simp[stepG,G,d]
  have k:stepG E.P h (G c cs') w=unwind E.P h c cs' none w:=by simp[stepG,G,i]
  rw[j,k];exact P' m q p a h d i (e d)
end
abbrev _root_.aJ:=Nat->Question->Nat
def _root_.Go.World.re(w:World)(t:aJ)(d:Nat):World:={w with tape:=t,drawn:=d}
abbrev _root_.aH:=Frame->List Frame->World->Prop
inductive LG (E:Env)(Stop:aH):Frame->List Frame->World->Prop|stop (f:y1)(cs:hA)(l:World)(h:Stop f cs l):LG E Stop f cs l|step (f:y1) (cs:hA) (l:World) (hc:f.mode=.run->Chk E f) (h:∀t d,∃f' cs' l' es,stepG E.P true (G f cs) (l.re t d)=.go (G f' cs') l' es)(hs:∀t d f' cs' l' es,stepG E.P true (G f cs) (l.re t d)=.go (G f' cs') l' es->LG E Stop f' cs' l'):LG E Stop f cs l
structure Strict (E:Env):Prop where
 free:E.free=false
 junk:E.junk=false
 dfr:∀f,E.dfr f=false
 tab:E.tab=.refuse "#"
section
variable {E:Env} {B:Blk}
def IR.eq(hF:E.junk=false/\E.tab=.refuse "#")(c:∀b b',B b b'->b=b') {x a:Item} (h:IR E B x a):x=a:=by cases h with|inRangeFunc l l' hl=>rw[c _ _ hl]|endRangeFunc l l' hl=>rw[c _ _ hl]|mark=>rw[hF.2]|_=>rfl
def KR.eq(hF:E.junk=false/\E.tab=.refuse "#")(c:∀b b',B b b'->b=b') {x a:List Item} (h:KR E B x a):x=a:=by induction h with|nil=>rfl|cons x a k k' hx hs ih=>rw[hx.eq hF c,ih]
def DR.eq(hF:E.junk=false)(c:∀b b',B b b'->b=b') {x a:List Deferred} (h:DR B x a):x=a:=by induction h with|nil=>rfl|cons r r' k k' hx hs ih=>rw[c _ _ hx,ih]
def AR.eq(hF:E.junk=false)(e:∀b b',B b b'->b=b') {x a:bJ} (h:AR E B x a):x=a:=xA h.size fun i c d=>(h.at_ i _ _ (e3 c) (e3 d)).eq_of hF e
def FR.eq(hF:Strict E)(K:∀b b',B b b'->b=b') {f k:y1} (h:FR E B f k):f=k:=by
 obtain⟨v,i,j,a,e,c,d⟩:=h;obtain⟨x,I,F,D,m1,m,A⟩:=f;obtain⟨y,J,G,d2,m2,n,C⟩:=k;dsimp only at*;have o:=i.eq hF.junk K;have p:=j.eq ⟨hF.junk,hF.tab⟩ K;have q:=a.eq hF.junk K;subst v o p q;have r:m1=m2:=by rcases e with⟨rfl,rfl⟩|⟨rfl,rfl⟩<;>rfl
 have t:m=n:=by
  rcases c.2 with h|⟨h,_⟩;·rw[c.1,h]
  .rw[hF.dfr]at h;cases h
 have u:A=C:=by
  rcases d with⟨rfl,rfl⟩|⟨l,H,rfl,rfl,z⟩;·rfl
  .rw[K _ _ z]
 rw[r,t,u]
def ST.eq(hF:Strict E)(e:∀b b',B b b'->b=b') {bs cs c:hA} (h:ST E B bs bs cs c):cs=c:=by induction h with|last f f' hf hr=>rw[hf.eq hF e]|cons f f' cs c hf hk hs ih=>rw[hf.eq hF e,ih]
def OR.eq(hF:E.junk=false)(e:∀b b',B b b'->b=b') {o i:Obj} (h:OR E B o i):o=i:=by cases h with|cells c c' T f hc=>rw[hc.eq hF e]|loop s p f t t' ps aq body d d' hp ht ha hb hd=>rw[ht.eq hF e,e _ _ hd]|number a a' lost h=>rw[h.eq e]|_=>rfl
abbrev _root_.hN:=Nat->Prop
structure Own (E:Env)(sh:hN)(bs:hA)(f:y1)(cs:hA)(l:World)(B:Blk):Prop where
 st:ST E B bs bs (f::cs) (f::cs)
 wr:WR E ⟨sh,fun _=>True⟩ B l l
 low:∀b,sh b->b<l.heap.size
 idn:∀b b',B b b'->b=b'
def WR.retape{S j:Side} {B:Blk} {l w u w':World} (h:WR E S B l w)(a:u.heap=l.heap)(r:w'.heap=w.heap)(x:j.sh=S.sh)(k:∀i q,j.till (u.drawn+i)->u.tape (u.drawn+i) q=w'.tape (w'.drawn+i) q):WR E j B u w':=by
 refine⟨h.fn,h.inj,fun b c d=>by rw[a,r];exact h.dom b c d,fun b c d e=>?_,fun b c d e=>?_,k,h.glob,h.low,by rw[a,r];exact h.gsz,fun e=>?_,fun g p=>by rw[a];exact h.dark g p⟩;·rw[a,r];exact h.obj b c d (by rw[<-x];exact e)
 .rw[a,r];exact h.shr b c d (by rw[<-x];exact e)
 .obtain⟨m,n,o⟩:=h.sh e;exact⟨by rw[x];exact m,by rw[a,r];exact n,o⟩
def Own.re{sh:hN} {bs cs:hA} {f:y1} {l:World} {B:Blk} (h:Own E sh bs f cs l B)(t:aJ)(d:Nat):Own E sh bs f cs (l.re t d) B:=⟨h.st,h.wr.retape rfl rfl rfl fun _ _ _=>rfl,h.low,h.idn⟩
def bC(bs:hA)(f:y1)(cs:hA):Prop:=(f.mode=.returning/\f.defers=[]/\cs=bs)∨(f.mode=.run/\vW f)
def C8{bs i cs e:hA} {f a:y1} (h:ST E B bs i (f::cs) (a::e)) (d:¬bC bs f cs):f.mode=.returning->f.defers=[]->ST E B bs i cs e/\a.kind=.normal:=by intro b c;cases h with|last f a hf hr=>exact absurd (.inl ⟨b,c,rfl⟩) d|cons f a cs e hf hk hs=>exact⟨hs,hk⟩
def j7(J:E.Fine)(hF:Strict E) {sh:hN} {bs cs:hA} {f:y1} {l:World} {B:Blk} (h:Own E sh bs f cs l B)(C:¬bC bs f cs) {g':Goroutine} {l':World} {es:Array Event} (hs:stepG E.P true (G f cs) l=.go g' l' es)(t:aJ)(d:Nat)(Q:∀i q,l.drawn+i<l'.drawn->l.tape (l.drawn+i) q=t (d+i) q):∃n cs',g'=G n cs'/\(PK l' bs n cs'∨((∃B',Own E sh bs n cs' l' B')/\l.drawn<=l'.drawn/\l'.tape=l.tape/\∃p,stepG E.P true (G f cs) (l.re t d)=.go (G n cs') (l'.re t (d+(l'.drawn-l.drawn))) p)):=by
 have R:WR E ⟨sh,fun j=>l.drawn<=j/\j<l'.drawn⟩ B l (l.re t d):=h.wr.retape rfl rfl rfl fun i q K=>Q i q K.2;have:=C6 J h.st R h.low true true (fun M=>h.st.head.chk hF.free fun L=>C (.inr ⟨M,L⟩)) (C8 h.st C) (.inr ⟨g',l',es,hs,fun j D v=>⟨D,v⟩⟩);rw[hs]at this;rcases this with⟨n,cs',rfl,N⟩|⟨n,cs',fa,Z,w',p,B',T,rfl,v,a,A,h5⟩;·exact⟨n,cs',rfl,.inl N⟩
 .refine⟨n,cs',rfl,.inr ?_⟩;have m:∀b b',B' b b'->b=b':=by
   intro b b' e;rcases a.al b b' e with x|⟨x1,x2,x3⟩;·exact h.idn _ _ x
   .have:(l.re t d).heap.size=l.heap.size:=rfl;omega
  have z:=A.eq hF m;simp only[eT]at z;obtain⟨rfl,rfl⟩:=z;have k:w'.heap=l'.heap:=by
   have O:w'.heap.size=l'.heap.size:=by have:=a.size.2.2;have h0:(l.re t d).heap.size=l.heap.size:=rfl;omega
   apply dD;intro b;by_cases e:∃b',B' b b'/\¬sh b;·obtain⟨b',e,hs⟩:=e;obtain rfl:=m _ _ e;obtain⟨o,o',F,H,I⟩:=a.wr.obj _ _ e hs;rw[F,H,I.eq hF.junk m]
   .have e:∀b',B' b b'->sh b:=fun b' x=>fX fun hs=>e ⟨b',x,hs⟩;by_cases r:b<l.heap.size
    .rw[a.lkeep b r fun b' x=>e b' (a.le _ _ x)];exact a.keep b r fun c x=>by have:=h.idn _ _ x;subst this;exact e _ (a.le _ _ x)
    .by_cases u:b<l'.heap.size;·obtain⟨b',x⟩:=a.cov b Qa u;exact absurd (h.low b (e b' x)) r
     .rw[dQ Qa,dQ Qa]
  have y:w'=l'.re t (d+(l'.drawn-l.drawn)):=by obtain⟨W,X,Y,s4⟩:=a.same;obtain⟨U,V,r3,r4⟩:=a.lone;have hd:=a.draws;obtain⟨wh,wt,wd,wo,wx⟩:=w';obtain⟨lh,lt,ld,lo,lx⟩:=l';simp only[World.re]at*;subst k W X Y;rw[U,V];congr 1;omega
  refine⟨⟨B',A,?_,fun b e=>h8 (h.low b e) a.size.2.1,m⟩,a.lone.2.2.2,a.lone.2.2.1,p,y▸v⟩;exact a.wr.retape rfl (by rw[k]) rfl fun _ _ _=>rfl
end
def ZJ(P:aA):Frame:={fn:=P.funcs.size,tmps:=#[],todo:=[.code (.refuse "")],defers:=[{target:=.nil,args:=#[]}],mode:=.run,kind:=.normal}
def dU(P:aA)(f:y1)(cs:hA)(l:World):Prop:=PK l [ZJ P] f cs∨(cs=[]/\(f=ZJ P∨∃a,f={ZJ P with mode:=.panicking a}))
section
variable {E:Env} {P:aA}
def lost_step{f:y1} {cs:hA} {l:World} (h:dU P f cs l):(∃o w es,stepG P true (G f cs) l=.ended o w es)∨∃A B F es,stepG P true (G f cs) l=.go (G A B) F es/\dU P A B F:=by
 rcases h with⟨⟨a,u⟩,q⟩|⟨rfl,rfl|⟨a,rfl⟩⟩
 .have H:stepG P true (G f cs) l=unwind P true f cs none l:=by simp[stepG,G,u]
  rw[H];have C:mE l f:=by cases q<;>assumption
  obtain⟨I,Q,k,j,R,M,O⟩:=f;dsimp only at u;subst u;unfold unwind;cases j with
  |cons d j=>
   obtain⟨r,rfl,L⟩:=C d Qd;simp only[Sem.runT_eq];have p:(∃x,(Instr.takeDeferred r).run P l=.halt x l)∨(Instr.takeDeferred r).run P l=.ok [] {l with heap:=l.heap.setIfInBounds r (.deferred none)}:=by unfold Instr.takeDeferred;simp only[aD,getObj,Sem.run];cases D:l.heap[r]? with|none=>exact .inl ⟨_,rfl⟩|some o=>cases o with
     |deferred c=>cases c with|none=>exact .inl ⟨_,rfl⟩|some j=>obtain rfl:=L j D;refine .inr ?_;simp[Result.andThen,setObj,Sem.run,D]
     |_=>exact .inl ⟨_,rfl⟩
   rcases p with⟨x,y⟩|y;·rw[y];exact .inl ⟨_,_,_,rfl⟩
   .rw[y];refine .inr ⟨_,cs,_,_,rfl,.inl ⟨⟨a,rfl⟩,?_⟩⟩;have i:∀(fr:y1),mE l fr->mE {l with heap:=l.heap.setIfInBounds r (.deferred none)} fr:=by
     intro fr t d e;obtain⟨N,J,K⟩:=t d e;refine⟨N,J,fun j b=>?_⟩;dsimp only at b;rw[bF]at b;split at b;·split at b<;>cases b
     .exact K j b
    have n:∀{z:hA},Tow l [ZJ P] z->Tow {l with heap:=l.heap.setIfInBounds r (.deferred none)} [ZJ P] z:=by intro z v;induction v with
     |last f h=>exact .last f (i f h)|cons f cs h hs ih=>exact .cons f cs (i f h) ih
    have m:mE {l with heap:=l.heap.setIfInBounds r (.deferred none)} ⟨I,Q,k,[]++j,.panicking a,M,O⟩:=fun d e=>i _ C d (by simp at e |-;exact .inr e);cases q with|last f h=>exact .last _ m|cons f cs h hs=>exact .cons _ _ m (n hs)
  |nil=>
   dsimp only;split;·exact .inl ⟨_,_,_,rfl⟩
   .cases q with|last f h=>exact .inr ⟨_,[],l,_,rfl,.inr ⟨rfl,.inr ⟨a,rfl⟩⟩⟩|cons f cs h hs=>cases hs with
     |last c hc=>
      refine .inr ⟨c.raise a,[ZJ P],l,_,rfl,.inl ⟨?_,.last _ ?_⟩⟩;·unfold Frame.raise;split<;>exact⟨_,rfl⟩
      .intro d e;refine hc d ?_;unfold Frame.raise at e;split at e<;>exact e|cons c cs hc hs=>
      refine .inr ⟨c.raise a,cs,l,_,rfl,.inl ⟨?_,.cons _ _ ?_ hs⟩⟩;·unfold Frame.raise;split<;>exact⟨_,rfl⟩
      .intro d e;refine hc d ?_;unfold Frame.raise at e;split at e<;>exact e
 .exact .inl ⟨_,_,_,rfl⟩
 .exact .inl ⟨_,_,_,rfl⟩
def R1{f a:y1} {cs b:hA} {l c:World} {es:Array Event} (h:stepG P true (G f cs) l=.go (G a b) c es):step P (lone f cs l)=.next (lone a b c):=by refine step_lone_go ?_;have:stepG P true {frame:=f,callers:=cs,status:=.running,dying:=none} l=stepG P true (G f cs) l:=rfl;rw[this,h];rfl
def nC{f:y1} {cs:hA} {l a:World} {o:Outcome} {es:Array Event} (h:stepG P true (G f cs) l=.ended o a es):step P (lone f cs l)=.ended o a:=by refine step_lone_ended ?_;have:stepG P true {frame:=f,callers:=cs,status:=.running,dying:=none} l=stepG P true (G f cs) l:=rfl;rw[this,h];rfl
def j8{f a:y1} {cs b:hA} {l c:World} (h:lone f cs l=lone a b c):f=a/\cs=b/\l=c:=by unfold lone at h;simp only[Machine.mk.injEq,Array.mk.injEq,eT,bS,bQ,true_and]at h;exact⟨h.2.1,h.2.2,h.1⟩
def uA:∀(n:Nat){f b:y1} {cs a:hA} {l l₁:World},dU P f cs l->runN P n (lone f cs l)=.next (lone b a l₁)->dU P b a l₁
 |0,f,b,cs,a,l,l₁,h,hr=>by simp only[runN,j5]at hr;obtain⟨rfl,rfl,rfl⟩:=j8 hr;exact h|n+1,f,b,cs,a,l,l₁,h,hr=>by
  simp only[runN]at hr;rcases lost_step h with⟨o,w,es,c⟩|⟨e,j,i,es,c,d⟩;·rw[nC c]at hr;cases hr
  .rw[R1 c]at hr;exact uA n d hr
end
section
variable {E:Env} {sh:hN} {B:Blk}
def own_kind(c:E.Fine)(hF:Strict E) {bs cs:hA} {f:y1} {l:World} (h:Own E sh bs f cs l B)(a:¬bC bs f cs):(∃o w es,stepG E.P true (G f cs) l=.ended o w es)∨∃b j es,stepG E.P true (G f cs) l=.go b j es:=by have:=C6 c h.st h.wr h.low true true (fun e=>h.st.head.chk hF.free fun d=>a (.inr ⟨e,d⟩)) (C8 h.st a) (.inl fun _=>trivial);cases i:stepG E.P true (G f cs) l with|ended o w es=>exact .inl ⟨_,_,_,rfl⟩|go g w es=>exact .inr ⟨_,_,_,rfl⟩|_=>rw[i]at this;exact this.elim
def atOut_step{f:y1} {cs:hA} {l:World} (h:Own E sh [ZJ E.P] f cs l B)(r:bC [ZJ E.P] f cs):(∃o w es,stepG E.P true (G f cs) l=.ended o w es)∨∃j C d es,stepG E.P true (G f cs) l=.go (G j C) d es/\dU E.P j C d:=by
 rcases r with⟨b,c,rfl⟩|⟨b,k,c⟩;case inr=>refine .inl ?_;obtain⟨e,i,A,p,y,u,n⟩:=f;dsimp only at b c;subst b c;exact⟨_,_,_,rfl⟩
 have m:=h.st.head.kind.1;have q:stepG E.P true (G f [ZJ E.P]) l=unwind E.P true f [ZJ E.P] none l:=by simp[stepG,G,b]
 rw[q];obtain⟨e,i,k,p,y,u,n⟩:=f;dsimp only at b c m;subst b c m;have a:∀v w,doReturn E.P true ⟨e,i,k,[],.returning,.normal,n⟩ [ZJ E.P] none v w=.go (G (ZJ E.P) []) w:=fun v w=>rfl;unfold unwind;dsimp only;cases t:E.P.funcs[e]? with|none=>exact .inr ⟨_,[],l,_,a _ _,.inr ⟨rfl,.inl rfl⟩⟩|some F=>dsimp only;simp only[Sem.runT_eq];cases z:(results F i).run E.P l with|halt x d=>cases x<;>exact .inl ⟨_,_,_,rfl⟩|ok v d=>exact .inr ⟨_,[],d,_,by dsimp only;rw[a];rfl,.inr ⟨rfl,.inl rfl⟩⟩
structure Halts (Stop:aH):Prop where
 call:∀f cs l,Stop f cs l->cs≠[]/\∀c,f.mode≠.panicking c
 tape:∀f cs l t d,Stop f cs l->Stop f cs (l.re t d)
def Z9{P:aA} {e:aH} (i:Halts e) {f:y1} {cs:hA} {l:World} (h:e f cs l):¬dU P f cs l:=by
 obtain⟨b,d⟩:=i.call _ _ _ h;rintro(⟨⟨c,a⟩,_⟩|⟨a,_⟩);·exact d c a
 .exact b a
def IY(m:E.Fine)(hF:Strict E) {G:aH} (I:Halts G):∀(n:Nat) {f e:y1} {cs a:hA} {l l₁:World} {B:Blk} (t:aJ)(d:Nat),Own E sh [ZJ E.P] f cs l B->(∀i q,l.tape (l.drawn+i) q=t (d+i) q)->runN E.P n (lone f cs l)=.next (lone e a l₁)->G e a l₁->∃j,runN E.P n (lone f cs (l.re t d))=.next (lone e a (l₁.re t j))
 |0,f,e,cs,a,l,l₁,B,t,d,h,ht,hr,hs=>by simp only[runN,j5]at hr;obtain⟨rfl,rfl,rfl⟩:=j8 hr;exact⟨d,rfl⟩|n+1,f,e,cs,a,l,l₁,B,t,d,h,ht,hr,hs=>by
  simp only[runN]at hr;by_cases p:bC [ZJ E.P] f cs
  .exfalso;rcases atOut_step h p with⟨o,w,es,b⟩|⟨y,H,c,es,b,k⟩;·rw[nC b]at hr;cases hr
   .rw[R1 b]at hr;exact Z9 I hs (uA n k hr)
  .rcases own_kind m hF h p with⟨o,w,es,b⟩|⟨D,c,es,b⟩;·rw[nC b]at hr;cases hr
   .obtain⟨y,H,rfl,C|⟨⟨J,A⟩,F,r,x,k⟩⟩:=j7 m hF h p b t d fun i q _=>ht i q;·exfalso;rw[R1 b]at hr;exact Z9 I hs (uA n (.inl C) hr)
    .rw[R1 b]at hr;obtain⟨j,z⟩:=IY m hF I n t (d+(c.drawn-l.drawn)) A (fun i q=>by
      have:=ht (c.drawn-l.drawn+i) q;rw[r];have u:l.drawn+(c.drawn-l.drawn+i)=c.drawn+i:=Qa
      have v:d+(c.drawn-l.drawn+i)=d+(c.drawn-l.drawn)+i:=Qa
      rw[u,v]at this;exact this) hr hs;refine⟨j,?_⟩;simp only[runN];rw[R1 k];exact z
end
structure St where
 f:Frame
 cs:List Frame
 l:World
section
variable {E:Env} {sh:hN} {Stop:aH}
def qC(E:Env)(sh:hN)(Stop:aH)(s:St):Prop:=(∃B,Own E sh [ZJ E.P] s.f s.cs s.l B)/\∀t d,∃n b a c,runN E.P n (lone s.f s.cs (s.l.re t d))=.next (lone b a c)/\Stop b a c
def Bad(E:Env)(sh:hN)(Stop:aH)(s:St):Prop:=qC E sh Stop s/\¬LG E Stop s.f s.cs s.l
def QC(y:E.Fine)(hF:Strict E)(N:Halts Stop) {s:St} (h:qC E sh Stop s)(J:¬Stop s.f s.cs s.l)(t:aJ)(d:Nat):∃c:St,(∃es,stepG E.P true (G s.f s.cs) (s.l.re t d)=.go (G c.f c.cs) c.l es)/\(∃B,Own E sh [ZJ E.P] c.f c.cs c.l B)/\d<=c.l.drawn/\c.l.tape=t/\¬bC [ZJ E.P] s.f s.cs/\∃n k e u,runN E.P n (lone c.f c.cs c.l)=.next (lone k e u)/\Stop k e u:=by obtain⟨⟨B,F⟩,H⟩:=h;obtain⟨n,k,e,u,a,r⟩:=H t d;have j:=F.re t d;cases n with|zero=>simp only[runN,j5]at a;obtain⟨b,m,C⟩:=j8 a;subst b m C;exact absurd (N.tape _ _ _ s.l.tape s.l.drawn r) J|succ n=>
  simp only[runN]at a;by_cases p:bC [ZJ E.P] s.f s.cs
  .exfalso;rcases atOut_step j p with⟨o,w,es,b⟩|⟨x,M,z,es,b,m⟩;·rw[nC b]at a;cases a
   .rw[R1 b]at a;exact Z9 N r (uA n m a)
  .rcases own_kind y hF j p with⟨o,w,es,b⟩|⟨L,z,es,b⟩;·rw[nC b]at a;cases a
   .obtain⟨x,M,rfl,K|⟨D,I,v,A,m⟩⟩:=j7 y hF j p b t d fun i q _=>rfl;·exfalso;rw[R1 b]at a;exact Z9 N r (uA n (.inl K) a)
    .rw[R1 b]at a;exact⟨⟨x,M,z⟩,⟨es,b⟩,D,I,v,p,n,k,e,u,a,r⟩
def QD(Q:E.Fine) (hF:Strict E) (hS:Halts Stop) {s:St} (h:Bad E sh Stop s):∃(t:aJ) (d:Nat) (a:St),Bad E sh Stop a/\(∃es,stepG E.P true (G s.f s.cs) (s.l.re t d)=.go (G a.f a.cs) a.l es)/\d<=a.l.drawn/\a.l.tape=t/\¬bC [ZJ E.P] s.f s.cs:=by
 obtain⟨O,hL⟩:=h;obtain⟨B0,R⟩:=O.1;have hn:¬Stop s.f s.cs s.l:=fun r=>hL (.stop _ _ _ r);have c:=QC Q hF hS O hn;have A:¬bC [ZJ E.P] s.f s.cs:=by obtain⟨_,_,_,_,_,h5,_⟩:=c s.l.tape s.l.drawn;exact h5
 have:∃t d o cs' v es,stepG E.P true (G s.f s.cs) (s.l.re t d)=.go (G o cs') v es/\¬LG E Stop o cs' v:=by
  apply fX;intro W;refine hL (.step _ _ _ (fun V=>R.st.head.chk hF.free fun hk=>A (.inr ⟨V,hk⟩)) (fun t d=>?_) fun t d o cs' v es r=>?_);·obtain⟨a,⟨es,F⟩,_⟩:=c t d;exact⟨_,_,_,_,F⟩
  .exact fX fun U=>W ⟨t,d,o,cs',v,es,r,U⟩
 obtain⟨t,d,o,cs',v,es,r,U⟩:=this;obtain⟨a,⟨aB,F⟩,N,hd,X,ho,_⟩:=c t d;have e:G o cs'=G a.f a.cs/\v=a.l:=by rw[r]at F;cases F;exact⟨rfl,rfl⟩
 obtain⟨D,rfl⟩:=e;have e2:o=a.f/\cs'=a.cs:=by unfold G at D;simp only[bS]at D;exact⟨D.1,D.2.1⟩
 obtain⟨rfl,rfl⟩:=e2;refine⟨t,d,a,⟨⟨N,fun Y I=>?_⟩,U⟩,⟨es,r⟩,hd,X,ho⟩;let b:Nat->Question->Nat:=fun j q=>if j<a.l.drawn then t j q else Y (j-a.l.drawn+I) q;obtain⟨⟨B,hO⟩,hc⟩:=O;obtain⟨x,⟨K,h2⟩,aC,aD,aA,_,n,f₁,H,l₁,hr,C⟩:=c b d;obtain⟨f3,y,Z,hp|⟨_,_,_,L,h3⟩⟩:=j7 Q hF (hO.re t d) ho r b d (fun i q hi=>by show t (d+i) q=b (d+i) q;have T:d+i<a.l.drawn:=hi;simp only[b,T,ZyJ]);·exfalso;have m:G f3 y=G a.f a.cs:=Z.symm;unfold G at m;simp only[bS]at m;obtain⟨rfl,rfl,_⟩:=m;obtain⟨k,V⟩:=hp.1;obtain⟨B1,p⟩:=N;exact p.st.head.noPanic.1 k V
 .have m:G f3 y=G a.f a.cs:=Z.symm;unfold G at m;simp only[bS]at m;obtain⟨rfl,rfl,_⟩:=m;have u:stepG E.P true (G s.f s.cs) (s.l.re b d)=.go (G x.f x.cs) x.l K:=h2;have M:stepG E.P true (G s.f s.cs) (s.l.re b d)=.go (G a.f a.cs) (a.l.re b (d+(a.l.drawn-d))) L:=h3;rw[M]at u;have J:x.f=a.f/\x.cs=a.cs/\x.l=a.l.re b a.l.drawn:=by
   simp only[A7,G,bS,bQ]at u;have e7:d+(a.l.drawn-d)=a.l.drawn:=Qa
   rw[e7]at u;exact⟨u.1.1.symm,u.1.2.symm,u.2.1.symm⟩
  rw[J.1,J.2.1,J.2.2]at hr;obtain⟨B1,p⟩:=N;obtain⟨d₁,z⟩:=IY Q hF hS n Y I (p.re b a.l.drawn) (fun i q=>by
   show b (a.l.drawn+i) q=Y (I+i) q;have:¬a.l.drawn+i<a.l.drawn:=Qa
   simp only[b,this,ZyI];congr 1;omega) hr C;exact⟨n,f₁,H,_,z,hS.tape _ _ _ _ _ C⟩
open Classical in def j9(X:E.Fine)(hF:Strict E)(Y:Halts Stop) {s:St} (h:qC E sh Stop s):LG E Stop s.f s.cs s.l:=by
 apply fX;intro hL;have o:∀b:{s:St // Bad E sh Stop s},∃(t:Nat->Question->Nat) (d:Nat) (F:{s:St // Bad E sh Stop s}),(∃es,stepG E.P true (G b.1.f b.1.cs) (b.1.l.re t d)=.go (G F.1.f F.1.cs) F.1.l es)/\d<=F.1.l.drawn/\¬bC [ZJ E.P] b.1.f b.1.cs:=by intro b;obtain⟨t,d,s₁,V,W,H,h4,h5⟩:=QD X hF Y b.2;exact⟨t,d,⟨s₁,V⟩,W,H,h5⟩
 obtain⟨T,o⟩:=HM o;obtain⟨D,o⟩:=HM o;obtain⟨N,o⟩:=HM o;have O:=fun b=>(o b).1;have hle:=fun b=>(o b).2.1;have z:=fun b=>(o b).2.2;let a:Nat->{s:St // Bad E sh Stop s}:=fun k=>Nat.rec ⟨s,h,hL⟩ (fun _ b=>N b) k;have a1:∀k,a (k+1)=N (a k):=fun k=>rfl;let c:Nat->Nat:=fun k=>Nat.rec 0 (fun k x=>x+((a (k+1)).1.l.drawn-D (a k))) k;have I:∀k,c (k+1)=c k+((a (k+1)).1.l.drawn-D (a k)):=fun k=>rfl;have U:∀k m,c k<=c (k+m):=by intro k m;induction m with
  |zero=>exact sW _|succ m ih=>have:=I (k+m);have e:k+(m+1)=k+m+1:=rfl;rw[e];omega
 have C:∀j k p,c k<=j->j<c (k+1)->c p<=j->j<c (p+1)->k=p:=by
  intro j k p V W H h4;rcases Nat.lt_trichotomy k p with Q|M|Q
  .have:=U (k+1) (p - (k+1));have e:k+1+(p - (k+1))=p:=Qa
   rw[e]at this;omega
  .exact M
  .have:=U (p+1) (k-(p+1));have e:p+1+(k-(p+1))=k:=Qa
   rw[e]at this;omega
 let τ:Nat->Question->Nat:=fun j q=>if r:∃k,c k<=j/\j<c (k+1)then T (a r.choose) (D (a r.choose)+(j-c r.choose)) q else 0;have hτ:∀k i q,i<(a (k+1)).1.l.drawn-D (a k)->τ (c k+i) q=T (a k) (D (a k)+i) q:=by intro k i q Z;have r:∃p,c p<=c k+i/\c k+i<c (p+1):=⟨k,Qa,by have:=I k;omega⟩;have e:r.choose=k:=C _ _ _ r.choose_spec.1 r.choose_spec.2 Qa (by have:=I k;omega);show (if r:∃p,c p<=c k+i/\c k+i<c (p+1)then T (a r.choose) (D (a r.choose)+(c k+i-c r.choose)) q else 0)=_;rw[Y2 r,e];congr 1;omega
 have run:∀k,runN E.P k (lone s.f s.cs (s.l.re τ 0))=.next (lone (a k).1.f (a k).1.cs ((a k).1.l.re τ (c k))):=by intro k;induction k with
  |zero=>rfl|succ k ih=>
   rw[runN_add,ih];obtain⟨es,hs⟩:=O (a k);obtain⟨⟨⟨B,hO⟩,_⟩,_⟩:=(a k).2;obtain⟨f3,cs3,u,hp|⟨_,_,_,J,H⟩⟩:=j7 X hF (hO.re (T (a k)) (D (a k))) (z (a k)) hs τ (c k) (fun i q Z=>by show T (a k) (D (a k)+i) q=τ (c k+i) q;have hi':D (a k)+i<(a (k+1)).1.l.drawn:=Z;exact(hτ k i q Qa).symm);·exfalso;unfold G at u;simp only[bS]at u;obtain⟨rfl,rfl,_⟩:=u;obtain⟨y,hm⟩:=hp.1;obtain⟨⟨⟨B1,L⟩,_⟩,_⟩:=(a (k+1)).2;exact L.st.head.noPanic.1 y hm
   .unfold G at u;simp only[bS]at u;obtain⟨rfl,rfl,_⟩:=u;simp only[runN];have K:stepG E.P true (G (a k).1.f (a k).1.cs) ((a k).1.l.re τ (c k))=.go (G (a (k+1)).1.f (a (k+1)).1.cs) ((a (k+1)).1.l.re τ (c k+((a (k+1)).1.l.drawn-D (a k)))) J:=H;rw[R1 K]
 obtain⟨n,f₁,cs₁,l₁,R,A⟩:=h.2 τ 0;rw[run n]at R;simp only[j5]at R;obtain⟨e1,e2,u⟩:=j8 R;rw[<-e1,<-e2,<-u]at A;exact(a n).2.2 (.stop _ _ _ (by have:=Y.tape _ _ _ (a n).1.l.tape (a n).1.l.drawn A;exact this))
end
end Go.Twin
namespace Go.Twin
open Go.Conc
open Go.ConcN (sumTo upd sumTo_upd upd_ne upd_same)
variable {sh:hN} {B:Blk}
structure Rel (E:Env)(sh:hN)(bs':hA)(B:Blk)(f:y1)(cs:hA)(l:World)(fa:y1)(ca:hA)(w:World):Prop where
 st:ST E B [ZJ E.P] bs' (f::cs) (fa::ca)
 wr:WR E ⟨sh,fun _=>False⟩ B l w
 low:∀b,sh b->b<l.heap.size
structure Went (sh:hN)(B:Blk)(l w:World)(B':Blk)(l' w':World):Prop where
 le:B.le B'
 al:∀b b',B' b b'->B b b'∨(l.heap.size<=b/\w.heap.size<=b'/\b+w.heap.size=b'+l.heap.size)
 keep:∀b',b'<w.heap.size->(∀b,B b b'->sh b)->w'.heap[b']?=w.heap[b']?
 size:w.heap.size<=w'.heap.size/\l.heap.size<=l'.heap.size/\w'.heap.size+l.heap.size=l'.heap.size+w.heap.size
 same:w'.os=w.os/\w'.output=w.output
 lone:l'.os=l.os/\l'.output=l.output
 lkeep:∀b,b<l.heap.size->(∀b',B b b'->sh b)->l'.heap[b]?=l.heap[b]?
 cov:∀b,l.heap.size<=b->b<l'.heap.size->∃b',B' b b'
def Went.refl(l w:World):Went sh B l w B l w:=⟨Blk.le_refl _,fun _ _ x=>.inl x,fun _ _ _=>rfl,⟨sW _,sW _,aM _ _⟩,⟨rfl,rfl⟩,⟨rfl,rfl⟩,fun _ _ _=>rfl,fun b a c=>absurd c (hQ.2 a)⟩
def Went.trans{C c:Blk} {l w l' w' i j:World} (h:Went sh B l w C l' w')(k:Went sh C l' w' c i j):Went sh B l w c i j:=by
 obtain⟨r,t,u⟩:=h.size;obtain⟨v,z,A⟩:=k.size;refine⟨Blk.le_trans h.le k.le,fun b a x=>?_,fun a e d=>?_,⟨Qa,Qa,Qa⟩,⟨k.same.1.trans h.same.1,k.same.2.trans h.same.2⟩,⟨k.lone.1.trans h.lone.1,k.lone.2.trans h.lone.2⟩,fun b e d=>?_,fun b e m=>?_⟩
 .rcases k.al b a x with y|⟨o,p,q⟩;·exact h.al b a y
  .exact .inr ⟨Qa,Qa,Qa⟩
 .rw[k.keep a Qa fun b x=>?_,h.keep a e d];rcases h.al b a x with y|⟨o,p,q⟩;·exact d b y
  .omega
 .rw[k.lkeep b Qa fun a x=>?_,h.lkeep b e d];rcases h.al b a x with y|⟨o,p,q⟩;·exact d a y
  .omega
 .by_cases n:b<l'.heap.size;·obtain⟨a,x⟩:=h.cov b e n;exact⟨a,k.le _ _ x⟩
  .exact k.cov b Qa m
section
variable {E:Env} {sh:hN} {bs':hA} {Stop:aH}
def uK(m:Halts Stop) {f:y1} {cs:hA} {l:World} (h:LG E Stop f cs l):¬dU E.P f cs l:=by induction h with
 |stop f cs l h=>exact Z9 m h|step f cs l hc hg hs ih=>
  intro i;have c:dU E.P f cs (l.re l.tape l.drawn):=i;rcases lost_step c with⟨o,w,k,b⟩|⟨e,g,j,k,b,a⟩;·obtain⟨e,g,j,d,a⟩:=hg l.tape l.drawn;rw[b]at a;cases a
  .exact ih _ _ _ _ _ _ b a
def qD{P:aA} {f:y1} {cs:hA} {l:World} (z:f.kind=.normal)(p:bC [ZJ P] f cs):(∃o w s,stepG P true (G f cs) l=.ended o w s)∨∃i g d s,stepG P true (G f cs) l=.go (G i g) d s/\dU P i g d:=by
 rcases p with⟨b,c,rfl⟩|⟨b,k,c⟩;case inr=>refine .inl ?_;obtain⟨e,h,y,m,t,r,j⟩:=f;dsimp only at b c;subst b c;exact⟨_,_,_,rfl⟩
 have n:stepG P true (G f [ZJ P]) l=unwind P true f [ZJ P] none l:=by simp[stepG,G,b]
 rw[n];obtain⟨e,h,k,m,t,r,j⟩:=f;dsimp only at b c z;subst b c z;have a:∀v w,doReturn P true ⟨e,h,k,[],.returning,.normal,j⟩ [ZJ P] none v w=.go (G (ZJ P) []) w:=fun v w=>rfl;unfold unwind;dsimp only;cases q:P.funcs[e]? with|none=>exact .inr ⟨_,[],l,_,a _ _,.inr ⟨rfl,.inl rfl⟩⟩|some F=>dsimp only;simp only[Sem.runT_eq];cases u:(results F h).run P l with|halt x d=>cases x<;>exact .inl ⟨_,_,_,rfl⟩|ok v d=>exact .inr ⟨_,[],d,_,by dsimp only;rw[a];rfl,.inr ⟨rfl,.inl rfl⟩⟩
def QF(K:E.Fine)(X:Halts Stop) {B:Blk} {f W:y1} {cs V:hA} {l w:World} (S:Rel E sh bs' B f cs l W V w)(M:f.mode=.run->Chk E f) (y:∀t d,∃n g l' es,stepG E.P true (G f cs) (l.re t d)=.go (G n g) l' es)(z:∀t d n g l' es,stepG E.P true (G f cs) (l.re t d)=.go (G n g) l' es->LG E Stop n g l') (F:Bool):∃t d n g l' es p k s m U,stepG E.P true (G f cs) (l.re t d)=.go (G n g) l' es/\stepG E.P F (G W V) w=.go (G p k) s m/\Rel E sh bs' U n g l' p k s/\Went sh B l w U l' s/\s.tape=w.tape/\w.drawn<=s.drawn/\∀e∈m,bH ⟨sh,fun _=>True⟩ U e:=by
 let t:Nat->Question->Nat:=fun j q=>w.tape (w.drawn+j) q;obtain⟨n,g,l',es,a⟩:=y t 0;have D:=z _ _ _ _ _ _ a;have A:¬bC [ZJ E.P] f cs:=by
  intro A;rcases qD (l:=l.re t 0) S.st.head.kind.1 A with⟨o,x,es,r⟩|⟨C,u,T,H,r,v⟩;·rw[r]at a;cases a
  .rw[r]at a;simp only[A7,G,bS,bQ]at a;obtain⟨⟨rfl,rfl⟩,rfl,_⟩:=a;exact uK X D v
 have Q:WR E ⟨sh,fun _=>True⟩ B (l.re t 0) w:=S.wr.retape rfl rfl rfl fun i q _=>by show w.tape (w.drawn+(0+i)) q=w.tape (w.drawn+i) q;rw[m']
 have:=C6 K S.st Q S.low true F M (C8 S.st A) (.inl fun _=>trivial);rw[a]at this;rcases this with⟨C,u,r,O⟩|⟨C,u,p,k,s,m,U,R,r,v,c,I,J⟩;·exfalso;simp only[G,bS,bQ]at r;obtain⟨rfl,rfl⟩:=r;exact uK X D (.inl O)
 .simp only[G,bS,bQ]at r;obtain⟨rfl,rfl⟩:=r;exact⟨t,0,n,g,l',es,p,k,s,m,U,a,v,⟨I,c.wr.retape rfl rfl rfl fun _ _ h=>h.elim,fun b L=>h8 (S.low b L) c.size.2.1⟩,⟨c.le,c.al,c.keep,c.size,⟨c.same.1,c.same.2.1⟩,⟨c.lone.1,c.lone.2.1⟩,c.lkeep,c.cov⟩,c.same.2.2.1,c.same.2.2.2,fun e N=>c.ev e (J e N)⟩
abbrev _root_.hS:=Value->World->Prop
abbrev _root_.hE:=Array Goroutine
def Fin(P:aA)(d:hS)(b:hE)(w:World)(sl:Option (Nat×Nat))(t:Trace):Prop:=∃N a o e c,runNT P (N+1) (crowd b w sl) t=(.ended o e,c)/\runN P N (crowd b w sl)=.next a/\step P a=.ended o e/\Good P d a o e c
def tD{P:aA} {f:hS} {c a:hE} {w w':World} {sl sl':Option (Nat×Nat)} {t:Trace} {l:Array MemOp} (h:stepT P (crowd c w sl)=(.next (crowd a w' sl'),l))(n:Fin P f a w' sl' (t++l)):Fin P f c w sl t:=by
 obtain⟨N,b,o,m,k,d,e,i,j⟩:=n;refine⟨N+1,b,o,m,k,?_,?_,i,j⟩;·rw[runNT_succ_next h];exact d
 .simp only[runN,step,h];exact e
def qE{B:Blk} {w l:World} {S:Side} (f:WR E S B l w) {k:Side} {e:Event} (c:bH k B e):EvL (fun _=>False) w.heap.size e:=by
 obtain⟨j,wr,n⟩:=e;refine⟨fun x _ h=>h.elim,?_,?_,?_⟩;·rintro rfl;exact c
 .rintro rfl;exact c
 .cases j with
  |cell a=>obtain⟨d,b,i,_⟩:=c;dsimp only at d;subst d;exact(f.dom _ _ i).2|obj r=>obtain⟨d,b,i,_⟩:=c;dsimp only at d;subst d;cases wr<;>exact(f.dom _ _ i).2|mark m=>cases m<;>first|exact trivial|exact c.elim
  |output=>exact c.elim|goroutines=>exact c.elim
end
section
variable {E:Env} {sh:hN} {bs':hA} {Stop:aH} {Post:hS}
def Rel.at_{B:Blk} {f r:y1} {cs e:hA} {l w:World} (h:Rel E sh bs' B f cs l r e w)(d:Nat):Rel E sh bs' B f cs l r e (w.at d):=⟨h.st,h.wr.retape rfl rfl rfl fun _ _ x=>x.elim,h.low⟩
def Went.at_{B e:Blk} {l w l' w':World} {d:Nat} (h:Went sh B l (w.at d) e l' w'):Went sh B l w e l' w':=⟨h.le,h.al,h.keep,h.size,h.same,h.lone,h.lkeep,h.cov⟩
abbrev _root_.c6:=Nat->Nat
def zI{P:aA} {c:hE} {a f:Goroutine} {w':World} {t:Trace} {q:c6} (p:c[0]?=some a)(g:Leavers P t c q)(fn:FuncId)(pos:String)(l:Array Event):Leavers P (t++MemOp.ofEvents 0 fn pos l) ((c.map (woken P a f w')).setIfInBounds 0 f) q:=by
 refine⟨fun j x d k=>?_,fun j d=>?_⟩
 .have h:0≠j:=Qa
  rw[cA h,bD]at k;obtain⟨y,n,rfl⟩:=e'.1 k;have i:=g.old j y d n;rw[iK i,lW t Qa _ (fun o b=>by obtain⟨e,_,rfl⟩:=k8 b;rfl)];exact i
 .have m:0<c.size:=(bO.1 p).1;rw[lW t (g':=0) (by simp at d;omega) _ (fun o b=>by obtain⟨e,_,rfl⟩:=k8 b;rfl)];exact g.above j (by simpa using d)
def QG(hG:E.Fine)(hS:Halts Stop) {f:y1} {cs:hA} {l:World} (hl:LG E Stop f cs l):∀{B:Blk} {fa:y1} {ca:hA} {w:World} {b:hE} {sl:Option (Nat×Nat)} {t:Trace} {q:c6},b[0]?=some (G fa ca)->Leavers E.P t b q->Past (fun _=>False) w.heap.size t->Rel E sh bs' B f cs l fa ca w->(∀{I:Blk} {J:y1} {m:hA} {l₁:World} {o:y1} {c:hA} {w₁:World} {a:hE} {u:Option (Nat×Nat)} {H:Trace} {V:c6},Stop J m l₁->a[0]?=some (G o c)->a.size=b.size->Leavers E.P H a V->Past (fun _=>False) w₁.heap.size H->Rel E sh bs' I J m l₁ o c w₁->Went sh B l w I l₁ w₁->Fin E.P Post a w₁ u H)->Fin E.P Post b w sl t:=by induction hl with
 |stop f cs l h=>intro B fa ca w b sl t q v z N O M;exact M h v rfl z N O (Went.refl _ _)|step f cs l hc s hs ih=>
  have aE:∀(n:Nat) {B:Blk} {fa:y1} {ca:hA} {w:World} {b:hE} {sl:Option (Nat×Nat)} {t:Trace} {q:c6},sumTo b.size q=n->b[0]?=some (G fa ca)->Leavers E.P t b q->Past (fun _=>False) w.heap.size t->Rel E sh bs' B f cs l fa ca w->(∀{I:Blk} {J:y1} {m:hA} {l₁:World} {o:y1} {c:hA} {w₁:World} {a:hE} {u:Option (Nat×Nat)} {H:Trace} {V:c6},Stop J m l₁->a[0]?=some (G o c)->a.size=b.size->Leavers E.P H a V->Past (fun _=>False) w₁.heap.size H->Rel E sh bs' I J m l₁ o c w₁->Went sh B l w I l₁ w₁->Fin E.P Post a w₁ u H)->Fin E.P Post b w sl t:=by intro n;induction n using Nat.strongRecOn with|ind n ihn=>
    intro B fa ca w b sl t q hn v z N O M;have aA:∀g∈b,awake g:=by
     intro g s;obtain⟨i,C,rfl⟩:=qB.1 s;rcases oE i with rfl|r
     .have:b[0]=G fa ca:=by simpa [e3 C] using v
      rw[this];exact awake_of (.inl rfl)
     .exact awake_of ((z.old i _ r (e3 C)).status.elim .inl fun x=>.inr (.inr x))
    obtain⟨i,g,d,W,C,A,R⟩:=crowd_pick (P:=E.P) (w:=w) (sl:=sl) aA ⟨0,_,v,rfl⟩;rcases oE i with rfl|r
    .obtain rfl:g=G fa ca:=by rw[v]at C;exact(R' C).symm
     obtain⟨tt,dd,f',cs',l',es,aI,aG,w',aH,B',g1,g2,g3,g4,g5,g6,g7⟩:=QF hG hS (O.at_ d) hc s hs true;have p:=U7 (P:=E.P) (sl:=W) (i:=0) C (show stepG E.P (0==0) (G fa ca) (w.at d)=_ from g2);have F:0<b.size:=(bO.1 v).1;refine tD (R.trans p) (ih _ _ _ _ _ _ g1 (by simp[F]) (zI v z _ _ _) ((N.mono g4.size.1).own fun e he=>qE g3.wr (g7 e he)) g3 ?_);intro I J m l₁ o c w₁ a u H V S k2 k3 k4 k5 k6 k7;exact M S k2 (k3.trans Qd) k4 k5 k6 (Went.trans (l':=l') (w':=w') g4.at_ k7)
    .have Y:=z.old i g r C;have aB:(i==0)=false:=Qk
     have F:i<b.size:=(bO.1 C).1;cases L:q i with
     |zero=>rw[L]at Y;rw[Y.1]at A;cases A|succ k=>
      rw[L]at Y;rcases Y with⟨hf,_⟩|⟨_,g',es,hm,T,aD⟩;·rw[hf]at A;cases A
      have p:=U7 (P:=E.P) (sl:=W) (i:=i) C (by rw[aB];exact T (w.at d));have U:((b.map (woken E.P g g' (w.at d))).setIfInBounds i g').size=b.size:=Qd
      have aF:sumTo b.size (upd q i k)+(k+1)=sumTo b.size q+k:=by have:=sumTo_upd q k id F;simpa [L] using this
      refine tD (R.trans p) (ihn (sumTo b.size (upd q i k)) Qa (q:=upd q i k) (by rw[U]) ?_ ⟨fun j x X Z=>?_,fun j X=>?_⟩ (N.mute Qa hm) (O.at_ d) ?_)
      .have aC:i≠0:=Qa
       rw[cA aC,bD,v];simp[woken_run (show (G fa ca).status=.running from rfl)]
      .by_cases D:i=j;·subst D;rw[bX (by simpa using F)]at Z;obtain rfl:=R' Z;rw[upd_same,Deaf_own];exact aD
       .rw[cA D,bD]at Z;obtain⟨y,hy,rfl⟩:=e'.1 Z;have Q:=z.old j y X hy;rw[iK Q,upd_ne q k (s0 D),lW t D _ (fun op K=>by obtain⟨e,_,rfl⟩:=k8 K;rfl)];exact Q
      .rw[lW t (g':=i) (by simp at X;omega) _ (fun op K=>by obtain⟨e,_,rfl⟩:=k8 K;rfl)];exact z.above j (by simpa using X)
      .intro I J m l₁ o c w₁ a u H V S k2 k3 k4 k5 k6 k7;exact M S k2 (k3.trans U) k4 k5 k6 k7.at_
  intro B fa ca w b sl t q v z N O M;exact aE _ rfl v z N O M
end
end Go.Twin
namespace Go.Twin
open Go.Conc (G)
structure Sub (E E':Env):Prop where
 P:E'.P=E.P
 glob:E'.glob=E.glob
 sh:E'.sh=E.sh
 nn:E'.nn=E.nn
 dark:E'.dark=E.dark
 junk:E.junk=true->E'.junk=true
 good:∀f,E.good f=true->E'.good f=true
 z0:E.z0=true->E'.z0=true
section
variable {E E':Env}
def Sub.flat(h:Sub E E'):∀(n:Nat)(t:aN),E'.flat n t=E.flat n t|0,_=>rfl|n+1,t=>by unfold Env.flat;rw[h.P];simp only[Sub.flat h n]
def Sub.operand(h:Sub E E'):∀(o:Operand),E.operand o=true->E'.operand o=true|.tmp _,_=>rfl|.const v,x=>x|.global g,x=>by show E'.glob g=true;rw[h.glob];exact x|.func f,x=>h.good f x
def Sub.zero(h:Sub E E')(t:aN):E'.zero t=E.zero t:=by unfold Env.zero;rw[h.P]
def Sub.zeroElem(h:Sub E E')(t:aN):E'.zeroElem t=E.zeroElem t:=by unfold Env.zeroElem;simp only[h.P,h.zero]
def Sub.op(h:Sub E E')(o:Op)(x:E.op o=true):E'.op o=true:=by
 have j:E'.darkOp o=E.darkOp o:=by unfold Env.darkOp;simp only[h.P,h.dark]
 unfold Env.op at x |-;rw[j];rw[fA]at x |-;refine x.imp id fun x=>?_;unfold Env.op0 at x |-;rw[aY]at x |-;refine⟨?_,?_⟩;·have e:=x.1;rw[dS]at e |-;exact fun o k=>h.operand o (e o k)
 .have e:=x.2;cases o with
  |makeFunc fn a b=>cases fn with
   |func f=>exact h.good f e|_=>exact e
  |call c=>dsimp only at e |-;unfold Env.call at e |-;simp only[h.P,h.zeroElem,h.sh];exact e|binOp op t a b c=>simp only[h.flat,h.sh]at e |-;exact e|convert s d a=>unfold Env.conv at e |-;simp only[h.P]at e |-;exact e|fieldAddr t a i=>unfold Env.sized at e |-;simp only[h.P]at e |-;exact e|range t a=>simp only[h.P]at e |-;exact e|nilCheck a=>simp only[h.nn]at e |-;exact e|alloc t=>simp only[h.zero]at e |-;exact e|build t ps=>simp only[h.zero]at e |-;exact e|buildSlice t n ps=>simp only[h.zeroElem]at e |-;exact e|makeSlice t a b=>simp only[h.zeroElem]at e |-;exact e|typeAssert x t a ok=>simp only[h.zero]at e |-;exact e|_=>exact e
def Sub.code(h:Sub E E'):∀(c:Code),E.code c=true->E'.code c=true|.skip,_|.label _,_|.ret,_|.exit _,_=>rfl|.refuse why,x=>x|.goto _,x=>x|.region _ ops _,x=>by simp only[Env.code,dS]at x |-;exact fun o d=>h.op o.op (x o d)|.seq a b,x=>by simp only[Env.code,aY]at x |-;exact⟨h.code a x.1,h.code b x.2⟩|.cond c a b,x=>by simp only[Env.code,aY]at x |-;exact⟨⟨h.operand c x.1.1,h.code a x.1.2⟩,h.code b x.2⟩|.block _ c,x=>by simp only[Env.code]at x |-;exact h.code c x|.loop c,x=>by simp only[Env.code]at x |-;exact h.code c x|.scope c,x=>by simp only[Env.code]at x |-;exact h.code c x|.rangeFunc f _ a b,x=>by simp only[Env.code,aY]at x |-;exact⟨⟨h.operand f x.1.1,h.code a x.1.2⟩,h.code b x.2⟩
def Sub.chk(h:Sub E E') {f:y1} (x:Chk E f):Chk E' f:=by
 unfold Chk at x |-;split at x;·exact fun o a=>h.op o.op (x o a)
 .exact h.operand _ x
 .exact⟨h.operand _ x.1,h.code _ x.2.1,h.code _ x.2.2⟩
 .exact x
 .exact x
 .trivial
variable {B:Blk}
def Sub.fn(h:Sub E E') {f a:Fn} (x:FnR E B f a):FnR E' B f a:=by cases x with|func f hf=>exact .func f (h.good f hf)|yield l l' hl=>exact .yield l l' hl
def Sub.vr(h:Sub E E') {v d:Value} (x:VR E B v d):VR E' B v d:=by induction x with|bool b=>exact .bool b|int k n=>exact .int k n|string s=>exact .string s|nilPtr=>exact .nilPtr|ptr a a' ha=>exact .ptr a a' ha|nilSlice l c=>exact .nilSlice l c|slice a a' l c ha=>exact .slice a a' l c ha|slice0 a hz=>exact .slice0 a (h.z0 hz)|func fn fn' xs xs' ys ys' hf hx _ hy _ ih1 ih2=>exact .func fn fn' xs xs' ys ys' (h.fn hf) hx ih1 hy ih2|nilFunc=>exact .nilFunc|iface t v d _ ih=>exact .iface t v d ih|nilIface=>exact .nilIface|chan r=>exact .chan r|junk v hf hv=>exact .junk v (h.junk hf) hv|agg xs xs' hx _ ih=>exact .agg xs xs' hx ih|tuple xs xs' hx _ ih=>exact .tuple xs xs' hx ih
def Sub.ar(h:Sub E E') {e xs':bJ} (x:AR E B e xs'):AR E' B e xs':=⟨x.size,fun i v c a b=>h.vr (x.at_ i v c a b)⟩
def Sub.or(h:Sub E E') {o e:Obj} (x:OR E B o e):OR E' B o e:=by cases x with|cells c c' T f b=>exact .cells c c' T f (h.ar b)|deferred=>exact .deferred|taken=>exact .taken|loop s p f t t' ps aq body d d' hp ht ha hb hd=>exact .loop s p f t t' ps aq body d d' (fun c b=>h.code c (hp c b)) (h.ar ht) (h.code _ ha) (h.code _ hb) hd|iter s p=>exact .iter s p|number a a' lost ha=>exact .number a a' lost ha
def Sub.wr(h:Sub E E') {S:Side} {l w:World} (x:WR E S B l w):WR E' S B l w:=⟨x.fn,x.inj,x.dom,fun b a d e=>let ⟨o,p,i,j,k⟩:=x.obj b a d e;⟨o,p,i,j,h.or k⟩,fun b a d e=>let ⟨c,n,T,f,i,j,k⟩:=x.shr b a d e;⟨c,n,T,f,i,j,h.ar k⟩,x.str,fun g m=>x.glob g (by rw[<-h.glob];exact m),fun b a d=>by rw[h.P];exact x.low b a d,by rw[h.P];exact x.gsz,fun e=>x.sh (by rw[<-h.sh];exact e),fun g m=>x.dark g (by rw[<-h.dark];exact m)⟩
variable {Stop Stop':aH}
def LG.sub(h:Sub E E') {f:y1} {cs:hA} {l:World} (x:LG E Stop f cs l):LG E' Stop f cs l:=by induction x with|stop f cs l h=>exact .stop f cs l h|step f cs l hc hg hs ih=>exact .step f cs l (fun a=>h.chk (hc a)) (by rw[h.P];exact hg) (by rw[h.P];exact ih)
def LG.trans{f:y1} {cs:hA} {l:World} (x:LG E Stop f cs l)(k:∀f cs l,Stop f cs l->LG E Stop' f cs l):LG E Stop' f cs l:=by induction x with|stop f cs l h=>exact k f cs l h|step f cs l hc hg hs ih=>exact .step f cs l hc hg ih
def LG.one{f b:y1} {cs m:hA} {l:World} {W:(Nat->Question->Nat)->Nat->World} {es:(Nat->Question->Nat)->Nat->Array Event} (i:f.mode=.run->Chk E f)(h:∀t d,stepG E.P true (G f cs) (l.re t d)=.go (G b m) (W t d) (es t d)) (k:∀t d,LG E Stop b m (W t d)):LG E Stop f cs l:=by refine .step f cs l i (fun t d=>⟨_,_,_,_,h t d⟩) fun t d g c j e a=>?_;rw[h t d]at a;simp only[A7,G,bS,bQ]at a;obtain⟨⟨rfl,rfl⟩,rfl,_⟩:=a;exact k t d
end
end Go.Twin
