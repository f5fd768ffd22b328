import Derived.Test.YtpeinenedkglpaaGreatDoorMm1
import Derived.Conc.Beside
set_option linter.unusedVariables false
set_option linter.unusedSimpArgs false
set_option maxRecDepth 100000
set_option maxHeartbeats 16000000
namespace Go
theorem Zun:type_of% @Array.getElem?_eq_none:=@Array.getElem?_eq_none
theorem Zux:type_of% @Array.getElem?_setIfInBounds_self_of_lt:=@Array.getElem?_setIfInBounds_self_of_lt
theorem ZuU:type_of% @Bool.not_true:=@Bool.not_true
theorem Zu1:type_of% @Conc.mem_seen:=@Conc.mem_seen
theorem Zwc:type_of% @List.map_nil:=@List.map_nil
theorem Zwe:type_of% @List.map_toArray:=@List.map_toArray
end Go
namespace Go.Twin
open Go.Conc (G)
def Env.ok(E:Env)(c:Code):Prop:=Zag c=true/\(E.free=false->E.code c=true)
theorem Env.ok_of{E:Env} {c:Code} (h:E.code c=true):E.ok c:=⟨ZbC c h,fun _=>h⟩
inductive IR (E:Env)(B:Blk):Item->Item->Prop|code (c:Code) (h:E.ok c):IR E B (.code c) (.code c)|inBlock (id:Nat):IR E B (.inBlock id) (.inBlock id)|inLoop (c:Code) (h:E.ok c):IR E B (.inLoop c) (.inLoop c)|inScope (c:Code) (h:E.ok c):IR E B (.inScope c) (.inScope c)|inRegion (ops:Array Oper) (todo:List Nat) (h:E.free=false->ops.all (fun o=>E.op o.op)=true):IR E B (.inRegion ops todo) (.inRegion ops todo)|inRangeFunc (l l':Nat) (h:B l l'):IR E B (.inRangeFunc l) (.inRangeFunc l')|endRangeFunc (l l':Nat) (h:B l l'):IR E B (.endRangeFunc l) (.endRangeFunc l')|beginRound:IR E B .beginRound .beginRound|mark:IR E B (.code (.refuse "#")) (.code E.tab)
inductive KR (E:Env)(B:Blk):List Item->List Item->Prop|nil:KR E B [] []|cons (x x':Item) (k k':List Item) (h:IR E B x x') (hs:KR E B k k'):KR E B (x::k) (x'::k')
inductive DR (B:Blk):List Deferred->List Deferred->Prop|nil:DR B [] []|cons (r r':Nat) (k k':List Deferred) (h:B r r') (hs:DR B k k'):DR B ({target:=.collected r,args:=#[]}::k) ({target:=.collected r',args:=#[]}::k')
def Chk(E:Env)(f:Frame):Prop:=match f.todo with|.inRegion ops (i::_)::_=>∀o,ops[i]?=some o->E.op o.op=true|.code (.cond c _ _)::_=>E.operand c=true|.code (.rangeFunc g _ a b)::_=>E.operand g=true/\E.code a=true/\E.code b=true|.code (.goto _)::_=>False|.code (.refuse why)::_=>why≠ "#"|_=>True
def ZgW(f:Frame):Prop:=∃k,f.todo=.code (.refuse "#")::k
structure FR (E:Env)(B:Blk)(f f':Frame):Prop where
 fn:f.fn=f'.fn
 tmps:AR E B f.tmps f'.tmps
 todo:KR E B f.todo f'.todo
 defers:DR B f.defers f'.defers
 mode:(f.mode=.run/\f'.mode=.run)∨(f.mode=.returning/\f'.mode=.returning)
 kind:f.kind=.normal/\(f'.kind=.normal∨(E.dfr f.fn=true/\f'.kind=.deferred))
 round:(f.roundOf=none/\f'.roundOf=none)∨∃l l',f.roundOf=some l/\f'.roundOf=some l'/\B l l'
inductive ST (E:Env)(B:Blk)(bs bs':List Frame):List Frame->List Frame->Prop|last (f f':Frame) (h:FR E B f f') (hr:f.roundOf=none):ST E B bs bs' (f::bs) (f'::bs')|cons (f f':Frame) (cs cs':List Frame) (h:FR E B f f') (hk:f'.kind=.normal) (hs:ST E B bs bs' cs cs'):ST E B bs bs' (f::cs) (f'::cs')
section
variable {E:Env} {B B':Blk}
theorem IR.mono(h:B.le B') {x x':Item} (k:IR E B x x'):IR E B' x x':=by cases k with|code c hc=>exact .code c hc|inBlock id=>exact .inBlock id|inLoop c hc=>exact .inLoop c hc|inScope c hc=>exact .inScope c hc|inRegion ops todo ho=>exact .inRegion ops todo ho|inRangeFunc l l' hl=>exact .inRangeFunc l l' (h _ _ hl)|endRangeFunc l l' hl=>exact .endRangeFunc l l' (h _ _ hl)|beginRound=>exact .beginRound|mark=>exact .mark
theorem KR.mono(h:B.le B') {x x':List Item} (k:KR E B x x'):KR E B' x x':=by induction k with|nil=>exact .nil|cons x x' k k' hx hs ih=>exact .cons _ _ _ _ (hx.mono h) ih
theorem DR.mono(h:B.le B') {x x':List Deferred} (k:DR B x x'):DR B' x x':=by induction k with|nil=>exact .nil|cons r r' k k' hx hs ih=>exact .cons _ _ _ _ (h _ _ hx) ih
theorem FR.mono(h:B.le B') {f f':Frame} (k:FR E B f f'):FR E B' f f':=⟨k.fn,k.tmps.mono h,k.todo.mono h,k.defers.mono h,k.mode,k.kind,k.round.imp id fun⟨l,l',h1,h2,h3⟩=>⟨l,l',h1,h2,h _ _ h3⟩⟩
theorem ST.mono(h:B.le B') {bs bs' cs cs':List Frame} (k:ST E B bs bs' cs cs'):ST E B' bs bs' cs cs':=by induction k with|last f f' hf hr=>exact .last f f' (hf.mono h) hr|cons f f' cs cs' hf hk hs ih=>exact .cons f f' cs cs' (hf.mono h) hk ih
theorem FR.eval{f f':Frame} (k:FR E B f f')(hg:∀g,E.glob g=true->B g g):Ops E B f.eval f'.eval:=by intro x hx;cases x with|tmp t=>exact k.tmps.getD t undefR|const v=>exact VR.closed 8 v hx|global g=>exact .ptr _ _ (.mk _ _ _ _ (hg g hx))|func f=>exact Zl (.func f hx) AR.empty AR.empty
theorem FR.chk{f f':Frame} (k:FR E B f f')(hF:E.free=false)(hm:¬ZgW f):Chk E f:=by have h:=k.todo;unfold Chk;unfold ZgW at hm;generalize f.todo=x at h hm |-;generalize f'.todo=x' at h;cases h with|nil=>trivial|cons y y' k k' hy hs=>cases hy with
  |code c hc=>have hmk:=hc.1;have:=hc.2 hF;cases c<;>first
    |trivial|(simpa [Zag] using hmk;done)|(cases this;done)|(simp only[Env.code,ZuM]at this;first|exact this.1.1|exact⟨this.1.1,this.1.2,this.2⟩)
  |inRegion ops td ho=>cases td with|nil=>trivial|cons i rest=>exact fun o hoi=>Zub.1 (ho hF) o (ZuD hoi)
  |mark=>exact absurd ⟨_,rfl⟩ hm|_=>trivial
theorem FR.finish{f f':Frame} (k:FR E B f f') {v v':Value} (hv:VR E B v v'):FR E B (f.finish v) (f'.finish v'):=by obtain⟨fn,tmps,todo,defers,mode,kind,round⟩:=k;obtain⟨fn1,t1,k1,d1,m1,c1,r1⟩:=f;obtain⟨fn2,t2,k2,d2,m2,c2,r2⟩:=f';dsimp only at*;cases todo with|nil=>exact⟨fn,tmps,.nil,defers,mode,kind,round⟩|cons x x' k k' hx hs=>cases hx with
  |inRegion ops td ho=>cases td with|nil=>exact⟨fn,tmps,.cons _ _ _ _ (.inRegion ops [] ho) hs,defers,mode,kind,round⟩|cons i rest=>refine⟨fn,?_,.cons _ _ _ _ (.inRegion ops rest ho) hs,defers,mode,kind,round⟩;show AR E B (match (ops[i]?).bind (·.dst)with|some d=>t1.setIfInBounds d v|none=>t1) (match (ops[i]?).bind (·.dst)with|some d=>t2.setIfInBounds d v'|none=>t2);cases (ops[i]?).bind (·.dst)with|none=>exact tmps|some d=>exact tmps.set d hv
  |inRangeFunc l l' hl=>exact⟨fn,tmps,.cons _ _ _ _ (.endRangeFunc l l' hl) hs,defers,mode,kind,round⟩|beginRound=>exact⟨fn,tmps,hs,defers,mode,kind,round⟩|code c hc=>exact⟨fn,tmps,.cons _ _ _ _ (.code c hc) hs,defers,mode,kind,round⟩|inBlock id=>exact⟨fn,tmps,.cons _ _ _ _ (.inBlock id) hs,defers,mode,kind,round⟩|inLoop c hc=>exact⟨fn,tmps,.cons _ _ _ _ (.inLoop c hc) hs,defers,mode,kind,round⟩|inScope c hc=>exact⟨fn,tmps,.cons _ _ _ _ (.inScope c hc) hs,defers,mode,kind,round⟩|endRangeFunc l l' hl=>exact⟨fn,tmps,.cons _ _ _ _ (.endRangeFunc l l' hl) hs,defers,mode,kind,round⟩|mark=>exact⟨fn,tmps,.cons _ _ _ _ .mark hs,defers,mode,kind,round⟩
theorem ZcO(f:Frame)(v:Value):(f.finish v).roundOf=f.roundOf:=by unfold Frame.finish;split<;>rfl
theorem Zi1(f:Frame)(v:Value):(f.finish v).kind=f.kind:=by unfold Frame.finish;split<;>rfl
theorem ST.top{bs bs' cs cs':List Frame} {f f' g g':Frame} (k:ST E B bs bs' (f::cs) (f'::cs')) (h:FR E B' g g') (hB:B.le B') (hr:g.roundOf=f.roundOf) (hkd:g'.kind=f'.kind:=by first|rfl|exact Zi1 _ _):ST E B' bs bs' (g::cs) (g'::cs'):=by cases k with|last f f' hf hr'=>exact .last g g' h (hr.trans hr')|cons f f' cs cs' hf hk hs=>exact .cons g g' cs cs' h (hkd.trans hk) (hs.mono hB)
theorem ST.head{bs bs' cs cs':List Frame} {f f':Frame} (k:ST E B bs bs' (f::cs) (f'::cs')):FR E B f f':=by cases k with|last f f' hf hr'=>exact hf|cons f f' cs cs' hf hk hs=>exact hf
theorem exitTo_r(id:Nat) {k k':List Item} (h:KR E B k k'):(exitTo id k=none/\exitTo id k'=none)∨∃r r',exitTo id k=some r/\exitTo id k'=some r'/\KR E B r r':=by induction h with|nil=>exact .inl ⟨rfl,rfl⟩|cons x x' k k' hx hs ih=>cases hx with
  |inBlock id'=>
   simp only[exitTo];split;·exact .inr ⟨_,_,rfl,rfl,hs⟩
   ·exact ih|_=>simpa only[exitTo] using ih
def Zdq(l:World)(f:Frame):Prop:=∀d∈f.defers,∃r,d={target:=.collected r,args:=#[]}/\∀ds,l.heap[r]?=some (.deferred (some ds))->ds=[]
inductive Tow (l:World)(bs:List Frame):List Frame->Prop|last (f:Frame)(h:Zdq l f):Tow l bs (f::bs)|cons (f:Frame)(cs:List Frame)(h:Zdq l f)(hs:Tow l bs cs):Tow l bs (f::cs)
def PK(l:World)(bs:List Frame)(f:Frame)(cs:List Frame):Prop:=(∃chain,f.mode=.panicking chain)/\Tow l bs (f::cs)
theorem Zi2{S:Side} {l w l':World} {f f':Frame} (h:FR E B f f')(hB:B.le B')(hw:WR E S B' l w)(hk:∀b,b<l.heap.size->l'.heap[b]?=l.heap[b]?):Zdq l' f:=by
 have key:∀{ds ds':List Deferred},DR B ds ds'->∀d∈ds,∃r,d={target:=.collected r,args:=#[]}/\∀ds,l'.heap[r]?=some (.deferred (some ds))->ds=[]:=by intro ds ds' hd;induction hd with|nil=>intro d hd;cases hd|cons r r' k k' hr hs ih=>intro d hd;cases hd with|tail _ hm=>exact ih d hm|head=>
    refine⟨r,rfl,fun ds hds=>?_⟩;have hr':=hB _ _ hr;rw[hk r (hw.dom _ _ hr').1]at hds;by_cases hS:S r;·obtain⟨c,c',T,fz,h1,_⟩:=hw.shr _ _ hr' hS;rw[h1]at hds;cases hds
    ·obtain⟨o,o',h1,_,ho⟩:=hw.obj _ _ hr' hS;rw[h1]at hds;cases hds;cases ho;rfl
 exact key h.defers
theorem Zi3{S:Side} {l w l':World} {bs bs' st st':List Frame} (h:ST E B bs bs' st st')(hB:B.le B')(hw:WR E S B' l w)(hk:∀b,b<l.heap.size->l'.heap[b]?=l.heap[b]?):Tow l' bs st:=by induction h with|last f f' hf hr=>exact .last f (Zi2 hf hB hw hk)|cons f f' cs cs' hf _ hs ih=>exact .cons f cs (Zi2 hf hB hw hk) ih
theorem Zi4{l:World} {bs cs:List Frame} {f g:Frame} (h:Tow l bs (f::cs))(e:g.defers=f.defers):Tow l bs (g::cs):=by cases h with|last f h=>exact .last g (fun d hd=>h d (e▸hd))|cons f cs h hs=>exact .cons g cs (fun d hd=>h d (e▸hd)) hs
def Zbj(E:Env)(S:Side)(B:Blk)(bs bs':List Frame)(l w:World)(ls as:GStep):Prop:=match ls with|.ended ..=>True|.go g' l' _=>(∃f cs,g'=G f cs/\PK l' bs f cs)∨∃f cs fa ca w' es' B' new,g'=G f cs/\as=.go (G fa ca) w' es'/\Ran E S B l w B' l' w' new/\ST E B' bs bs' (f::cs) (fa::ca)/\∀e∈es',e∈new|_=>False
theorem SR.both{α β:Type} {S:Side} {Q:Blk->α->β->Prop} {s:Sem α} {s':Sem β} (h:SR E Q B s s') {l w:World} (hw:WR E S B l w)(hS:∀b,S b->b<l.heap.size)(hU:ZbX S l.drawn (left (s.run E.P l)).drawn):match s.run E.P l with|.ok a l'=>∃B' b w' new,s'.run E.P w=.ok b w'/\s'.events E.P w #[]=new/\Ran E S B l w B' l' w' new/\Q B' a b|.halt x l'=>Halt.quiet x/\∃B₁ l₁ w₁ new,Ran E S B l w B₁ l₁ w₁ new/\∀b,b<l₁.heap.size->l'.heap[b]?=l₁.heap[b]?:=by have:=h.run l w #[] hw hS;unfold Z3 at this;cases hr:s.run E.P l with|halt x l'=>rw[hr]at this hU;exact this hU|ok a l'=>rw[hr]at this hU;obtain⟨B',b,w',new,h1,h2,h3⟩:=this hU;rw[Sem.runT_eq]at h1;simp only[Prod.mk.injEq,Array.empty_append]at h1;exact⟨B',b,w',new,h1.1,h1.2,h2,h3⟩
theorem ZdZ(hG:E.Fine) {f:FuncId} (hf:E.good f=true) {xs xs':Array Value} (h:AR E B xs xs'):FR E B (Frame.enter E.P f xs .normal) (Frame.enter E.P f xs' .normal):=by
 refine⟨rfl,?_,?_,.nil,.inl ⟨rfl,rfl⟩,⟨rfl,.inl rfl⟩,.inl ⟨rfl,rfl⟩⟩;·show AR E B (xs++Array.replicate _ undef) (xs'++Array.replicate _ undef);rw[h.size];exact h.append (AR.replicate _ undefR)
 ·refine .cons _ _ _ _ (.code _ ?_) .nil;cases hfn:E.P.funcs[f]? with
  |none=>exact⟨rfl,fun _=>rfl⟩|some fn=>cases hb:fn.body with|none=>exact⟨by simp[hb];rfl,fun _=>by simp[hb];rfl⟩|some c=>exact⟨by simpa [hb] using hG.mark f fn c hf hfn hb,fun hff=>by simpa [hb] using hG.code hff f fn c hf hfn hb⟩
theorem Zny{f:Frame} (h:∀c,f.mode≠.panicking c)(vs:List PanicEntry):f.raise vs={f with mode:=.panicking vs}:=by unfold Frame.raise;cases hm:f.mode with|panicking c=>exact absurd hm (h c)|_=>rfl
theorem FR.noPanic{f f':Frame} (k:FR E B f f'):(∀c,f.mode≠.panicking c)/\∀c,f'.mode≠.panicking c:=by rcases k.mode with⟨h1,h2⟩|⟨h1,h2⟩<;>rw[h1,h2]<;>exact⟨by simp,by simp⟩
theorem ZgX(hG:E.Fine) {S:Side} {bs bs' cs cs':List Frame} {f f':Frame} {l w:World} {s s':Sem Next} (hs:SR E (QN E) B s s') (hT:ST E B bs bs' (f::cs) (f'::cs')) (hw:WR E S B l w) (hS:∀b,S b->b<l.heap.size) (hU:ZbX S l.drawn (left (s.run E.P l)).drawn):Zbj E S B bs bs' l w (stepG.apply E.P true f cs none s l) (stepG.apply E.P true f' cs' none s' w):=by
 have hb:=hs.both hw hS hU;have hF:=hT.head;have hk:(f.kind==CallKind.early)=false:=by rw[hF.kind.1];rfl
 have hk':(f'.kind==CallKind.early)=false:=by rcases hF.kind.2 with h|⟨_,h⟩<;>rw[h]<;>rfl
 have hcons:∀{B':Blk} {g g':Frame},B.le B'->FR E B' g g'->g'.kind=.normal->ST E B' bs bs' (g::f::cs) (g'::f'::cs'):=fun hB hg hkn=>.cons _ _ _ _ hg hkn (hT.mono hB);have hseen:∀{P:Program} {fn:FuncId} {es new:Array Event},es=new->∀e∈seen P fn es++#[],e∈new:=by intro P fn es new he e h;rw[Zud]at h;exact he▸Zu1 h
 unfold stepG.apply;simp only[if_true,Sem.runT_eq,hk,hk',if_false,ZuQ];cases hr:s.run E.P l with
 |ok nx l'=>rw[hr]at hb;obtain⟨B',nb,w',new,h1,h2,h3,h4⟩:=hb;rw[h1,h2];cases h4 with
  |value v v' hv=>exact .inr ⟨f.finish v,cs,f'.finish v',cs',w',_,B',new,rfl,rfl,h3,hT.top ((hF.mono h3.le).finish hv) h3.le (ZcO _ _),hseen rfl⟩|skip=>exact .inr ⟨f.finish undef,cs,f'.finish undef,cs',w',_,B',new,rfl,rfl,h3,hT.top ((hF.mono h3.le).finish undefR) h3.le (ZcO _ _),hseen rfl⟩|enter g xs xs' hg hx=>refine .inr ⟨_,f::cs,_,f'::cs',w',_,B',new,rfl,rfl,h3,hcons h3.le ?_ ?_,hseen rfl⟩;all_goals have hk1:=hF.todo;generalize f.todo=k at hk1 |-;generalize f'.todo=k' at hk1 |-;cases hk1 with
    |nil=>first|exact ZdZ hG hg hx|rfl
    |cons y y' k k' hy hs=>cases hy<;>first|exact ZdZ hG hg hx|rfl
  |round i i' g t t' as body hi ht ha hbd=>refine .inr ⟨Frame.round i g t as body .normal,f::cs,Frame.round i' g t' as body .normal,f'::cs',w',_,B',new,rfl,rfl,h3,hcons h3.le ?_ rfl,hseen rfl⟩;exact⟨rfl,ht,.cons _ _ _ _ (.code _ (E.ok_of ha)) (.cons _ _ _ _ .beginRound (.cons _ _ _ _ (.code _ (E.ok_of hbd)) .nil)),.nil,.inl ⟨rfl,rfl⟩,⟨rfl,.inl rfl⟩,.inr ⟨i,i',rfl,rfl,hi⟩⟩
 |halt x l'=>rw[hr]at hb;obtain⟨hq,B₁,l₁,w₁,new,h1,h2⟩:=hb;cases x with
  |stuck _=>exact trivial|unsupported u=>cases u<;>first|exact trivial|exact hq.elim
  |panic v=>refine .inl ⟨f.raise [{v,recovered:=false}],cs,rfl,?_⟩;rw[Zny hF.noPanic.1];exact⟨⟨_,rfl⟩,Zi4 (Zi3 hT h1.le h1.wr h2) rfl⟩|_=>exact hq.elim
end
section
variable {E:Env} {B B':Blk} {S:Side} {bs bs' cs cs':List Frame} {l w:World}
theorem FR.withTodo{f f':Frame} (h:FR E B f f') {k k':List Item} (hk:KR E B k k'):FR E B {f with todo:=k} {f' with todo:=k'}:=⟨h.fn,h.tmps,hk,h.defers,h.mode,h.kind,h.round⟩
theorem Za4{f f' g g':Frame} (hT:ST E B bs bs' (f::cs) (f'::cs')) (hw:WR E S B l w) (h:FR E B g g') (hr:g.roundOf=f.roundOf) (hkd:g'.kind=f'.kind:=by first|rfl|exact Zi1 _ _):Zbj E S B bs bs' l w (.go (G g cs) l) (.go (G g' cs') w):=.inr ⟨g,cs,g',cs',w,#[],B,#[],rfl,rfl,.refl hw,hT.top h (Blk.le_refl _) hr hkd,fun e h=>h⟩
theorem Zk{B₁:Blk} {l₁ w₁:World} {new:Array Event} {ls as:GStep} (hR:Ran E S B l w B₁ l₁ w₁ new) (h:Zbj E S B₁ bs bs' l₁ w₁ ls as) {es es':Array Event} (he:∀e∈es',e∈new):Zbj E S B bs bs' l w (GStep.after es ls) (GStep.after es' as):=by cases ls with
 |ended o x es=>exact trivial|go g x es0=>
  rcases h with⟨f,cs,h1,h2⟩|⟨f,cs,fa,ca,w',es1,B',n,h1,h2,h3,h4,h5⟩;·exact .inl ⟨f,cs,h1,h2⟩
  ·subst h2;exact .inr ⟨f,cs,fa,ca,w',es'++es1,B',new++n,h1,rfl,hR.trans h3,h4,fun e h=>(ZuB.1 h).elim (fun h=>ZuB.2 (.inl (he e h))) fun h=>ZuB.2 (.inr (h5 e h))⟩|_=>exact h.elim
theorem Zd0{f f' c c':Frame} {ml ma:Bool} (hT:ST E B bs bs' (c::cs) (c'::cs')) (hw:WR E S B l w) (hk:f.kind=.normal) (hk':f'.kind=.normal) {v v':Value} (hv:VR E B v v'):Zbj E S B bs bs' l w (doReturn E.P ml f (c::cs) none v l) (doReturn E.P ma f' (c'::cs') none v' w):=by unfold doReturn;rw[hk,hk'];exact Za4 hT hw (hT.head.finish hv) (ZcO _ _)
theorem ZfB{r r':Nat} (h:B r r'):SR E (fun B (x y:Loop)=>OR E B (.loop x) (.loop y)) B (Instr.getLoop r) (Instr.getLoop r'):=by
 unfold Instr.getLoop;refine Za (ZdT h) fun B1 o o' h1 ho=>?_;have h0:=ho;cases ho<;>try exact SR.halt _ (.stuck _) _ trivial
 exact Zx h0
theorem Znz{r r':Nat} (h:B r r') {jump:Option Code} (hj:∀c,jump=some c->E.code c=true):SR E (QV E) B (Instr.endRound r jump) (Instr.endRound r' jump):=by unfold Instr.endRound;refine Za (ZfB h) fun B1 x y h1 hx=>?_;cases hx with|loop s p f t t' ps as body d d' hp ht ha hb hd=>refine Za (ZeA (h1 _ _ h) (.loop _ _ _ _ _ _ _ _ _ _ hj ht ha hb hd)) fun B2 _ _ h2 _=>?_;exact Zx (.bool _)
theorem ZnA{r r':Nat} (h:B r r'):SR E QU B (Instr.beginRound r) (Instr.beginRound r'):=by unfold Instr.beginRound;refine Za (ZfB h) fun B1 x y h1 hx=>?_;cases hx with|loop s p f t t' ps as body d d' hp ht ha hb hd=>refine Za (ZeA (h1 _ _ h) (.loop _ _ _ _ _ _ _ _ _ _ hp ht ha hb hd)) fun B2 _ _ h2 _=>?_;cases s<;>first|exact Zx trivial|exact ZbY trivial
theorem Zi5{r r':Nat} (h:B r r'):SR E (fun _ a b=>a=b/\∀c,a=some c->E.code c=true) B (Instr.endLoop r) (Instr.endLoop r'):=by unfold Instr.endLoop;refine Za (ZfB h) fun B1 x y h1 hx=>?_;cases hx with|loop s p f t t' ps as body d d' hp ht ha hb hd=>dsimp only;refine ZaB (fun _=>Zfw _ trivial) fun _=>?_;refine Za (ZeA (h1 _ _ h) (.loop _ _ _ _ _ _ _ _ _ _ hp ht ha hb hd)) fun B2 _ _ h2 _=>?_;exact Zx ⟨rfl,hp⟩
theorem ZnB(fn:FuncId) {t t':Array Value} (ht:AR E B t t')(ps:Array Tmp)(as body:Code)(ha:E.code as=true)(hb:E.code body=true) {rd rd':Option Nat} (hr:(rd=none/\rd'=none)∨∃r r',rd=some r/\rd'=some r'/\B r r'):SR E (fun B (x y:Nat×List Deferred)=>B x.1 y.1/\DR B x.2 y.2) B (Instr.enterLoop fn t ps as body rd) (Instr.enterLoop fn t' ps as body rd'):=by
 unfold Instr.enterLoop;rcases hr with⟨rfl,rfl⟩|⟨r,r',rfl,rfl,hr⟩
 ·dsimp only;refine Za (ZdS .deferred) fun B1 x y h1 hx=>?_;refine Za (Q:=fun B (a b:Nat×List Deferred)=>B a.1 b.1/\DR B a.2 b.2) (Zx ⟨hx,.cons _ _ _ _ hx .nil⟩) fun B2 a b h2 hab=>?_;refine Za (ZdS (.loop _ _ _ _ _ _ _ _ _ _ (by simp) ((ht.mono h1).mono h2) ha hb hab.1)) fun B3 u v h3 hu=>?_;exact Zx ⟨hu,hab.2.mono h3⟩
 ·dsimp only;refine Za (ZfB hr) fun B1 x y h1 hx=>?_;have hd:B1 x.defers y.defers:=by cases hx;assumption
  refine Za (Q:=fun B (a b:Nat×List Deferred)=>B a.1 b.1/\DR B a.2 b.2) (Zx ⟨hd,.nil⟩) fun B2 a b h2 hab=>?_;refine Za (ZdS (.loop _ _ _ _ _ _ _ _ _ _ (by simp) ((ht.mono h1).mono h2) ha hb hab.1)) fun B3 u v h3 hu=>?_;exact Zx ⟨hu,hab.2.mono h3⟩
theorem ZnC{r r':Nat} (h:B r r'):SR E (fun _ a b=>a=[]/\b=[]) B (Instr.takeDeferred r) (Instr.takeDeferred r'):=by
 unfold Instr.takeDeferred;refine Za (ZdT h) fun B1 o o' h1 ho=>?_;cases ho<;>try exact SR.halt _ (.stuck _) _ trivial
 exact Za (ZeA (h1 _ _ h) .taken) fun B2 _ _ h2 _=>Zx ⟨rfl,rfl⟩
theorem ZeF(fn:Func) {t t':Array Value} (ht:AR E B t t'):SR E (QV E) B (results fn t) (results fn t'):=by
 unfold results;simp only[Array.mapM_eq_mapM_toList];have key:∀(rs:List ResultVar)(B:Blk),AR E B t t'->SR E (fun B a b=>LR E B a b) B (rs.mapM fun|.tmp t1=>Pure.pure (t.getD t1 undef)|.cell a ty=>do loadVar ty (<-asAddr (t.getD a undef)))
   (rs.mapM fun|.tmp t1=>Pure.pure (t'.getD t1 undef)|.cell a ty=>do loadVar ty (<-asAddr (t'.getD a undef))):=by intro rs;induction rs with|nil=>intro B ht;simp only[Zv7];exact Zx .nil|cons r rs ih=>
   intro B ht;simp only[Zv6];refine Za (Q:=QV E) ?_ fun B1 v v' h1 hv=>?_;·cases r with|tmp t1=>exact Zx (ht.getD t1 undefR)|cell a ty=>exact Za (ZgG (ht.getD a undefR)) fun B1 x y h1 hx=>ZiF ty hx
   ·refine Za (ih B1 (ht.mono h1)) fun B2 a b h2 hab=>?_;exact Zx (.cons _ _ _ _ (hv.mono h2) hab)
 refine Za (Q:=fun B (a b:Array Value)=>AR E B a b) (Za (key _ B ht) fun B1 a b h1 hab=>Zx hab.array) fun B1 a b h1 hab=>?_;have hs:=hab.size;by_cases h:a.size=1;·have h':b.size=1:=hs▸h;rw[dif_pos h,dif_pos h'];exact Zx (hab.at_ 0 _ _ (Zum (by omega)) (Zum (by omega)))
 ·have h':¬b.size=1:=hs▸h;rw[dif_neg h,dif_neg h'];exact Zx (Zh hab)
end
variable {es:Array Event} {s:GStep} {g:Goroutine} {w w' l l₀:World} {P:Program} {fr f:Frame} {cs:List Frame} {dy:Option Dying} {S:Side}
theorem Zi6{e:Array Event} (h:GStep.after es s=.go g w e):∃e',s=.go g w e':=by cases s<;>simp[GStep.after]at h;exact⟨_,by rw[h.1,h.2.1]⟩
theorem ZfC{α:Type} {s:Sem α} {a:α} (h:s.run P w=.ok a w'):w.drawn<=w'.drawn:=by have:=ZgB P s w;rw[h]at this;exact this
theorem ZnD{n:Nat} (h:early P fr cs dy n w=.go g w' es):w.drawn<=w'.drawn:=by
 unfold early at h;dsimp only at h;repeat' split at h
 all_goals first
  |(cases h;done)|(cases h;exact ZwO _)|(cases h;exact ZfC (by assumption))|(cases h;simp only;exact ZfC (by assumption))
theorem ZnE{m:String} (h:endFatal P fr cs dy m w=.go g w' es):w.drawn<=w'.drawn:=by
 unfold endFatal at h;dsimp only at h;split at h;·unfold dieOf at h;cases h;exact ZfC (by assumption)
 ·cases h
 ·cases h
theorem ZnF{s:Sem Next} (h:stepG.apply P true f cs none s l=.go g w' es):(left (s.run P l)).drawn<=w'.drawn:=by unfold stepG.apply at h;simp only[if_true,Sem.runT_eq]at h;obtain⟨e',h⟩:=Zi6 h;cases hr:s.run P l with
 |ok nx l'=>
  rw[hr]at h;cases nx<;>first
   |(cases h;exact ZwO _)|(cases h;done)|skip
  all_goals
   dsimp only at h;repeat' split at h
   all_goals first
    |(cases h;exact ZwO _)|(cases h;done)|(unfold endThrow dieOf at h;cases h;exact ZwO _)
 |halt x l'=>
  rw[hr]at h;cases x<;>first
   |(cases h;exact ZwO _)|(cases h;done)|exact ZnE h|(unfold endThrow dieOf at h;cases h;exact ZwO _)|skip
  rename_i u;cases u<;>first|exact ZnD h|(cases h;done)
def ZbQ(S:Side)(l:World)(ls:GStep):Prop:=(∀j,S.till j)∨∃g l' es,ls=.go g l' es/\ZbX S l.drawn l'.drawn
theorem ZbQ.after(h:ZbQ S l (GStep.after es s)):ZbQ S l s:=by
 rcases h with h|⟨g,l',e,h1,h2⟩;·exact .inl h
 ·obtain⟨e',h3⟩:=Zi6 h1;exact .inr ⟨g,l',e',h3,h2⟩
theorem ZbQ.apply{s:Sem Next} (h:ZbQ S l₀ (stepG.apply P true f cs none s l))(hl:l₀.drawn<=l.drawn):ZbX S l.drawn (left (s.run P l)).drawn/\ZbX S l₀.drawn l.drawn:=by
 rcases h with h|⟨g,l',e,h1,h2⟩;·exact⟨fun j _ _=>h j,fun j _ _=>h j⟩
 ·have:=ZnF h1;have h3:=ZgB P s l;exact⟨h2.sub hl this,h2.sub (ZwO _) (ZwP h3 this)⟩
theorem ZbQ.doReturn{m:Bool} {v:Value} (h:ZbQ S l₀ (doReturn P m f cs none v l)):ZbX S l₀.drawn l.drawn:=by
 rcases h with h|⟨g,l',e,h1,h2⟩;·exact fun j _ _=>h j
 ·unfold Go.doReturn at h1;have:l'=l:=by
   dsimp only at h1;repeat' split at h1
   all_goals first
    |(cases h1;rfl)|(cases h1;done)
  exact this▸h2
theorem ZbQ.go{l':World} (h:ZbQ S l (.go g l' es)):ZbX S l.drawn l'.drawn:=by
 rcases h with h|⟨g,l',e,h1,h2⟩;·exact fun j _ _=>h j
 ·cases h1;exact h2
section
variable {E:Env} {B B':Blk} {S:Side} {bs bs' cs cs':List Frame} {l w:World}
theorem Zi7:∀{a a' b b':List Deferred},DR B a a'->DR B b b'->DR B (a++b) (a'++b')|_,_,_,_,.nil,h=>h|_,_,_,_,.cons r r' k k' hx hs,h=>.cons r r' _ _ hx (Zi7 hs h)
theorem ZgY{f f':Frame} (hT:ST E B bs bs' (f::cs) (f'::cs')) (hw:WR E S B l w) (hS:∀b,S b->b<l.heap.size) {ml ma:Bool} (jump:Option Code) (pl pa:String):(∀c,jump=some c->E.code c=true)->ZbQ S l (match f.roundOf with|none=>if (match jump with|none=>true|some .ret=>true|_=>false)=true then .go (G {f with mode:=.returning} cs) l else .ended (.stuck "exit, goto: no such block or label" pl) l|some i=>GStep.after (seen E.P f.fn ((Instr.endRound i jump).runT E.P l #[]).2) (match ((Instr.endRound i jump).runT E.P l #[]).1 with|.ok v w=>doReturn E.P ml f cs none v w|.halt _ w=>.ended (.stuck "range over a function: no such loop" pl) w))->Zbj E S B bs bs' l w (match f.roundOf with
    |none=>if (match jump with|none=>true|some .ret=>true|_=>false)=true then .go (G {f with mode:=.returning} cs) l else .ended (.stuck "exit, goto: no such block or label" pl) l|some i=>GStep.after (seen E.P f.fn ((Instr.endRound i jump).runT E.P l #[]).2) (match ((Instr.endRound i jump).runT E.P l #[]).1 with
     |.ok v w=>doReturn E.P ml f cs none v w|.halt _ w=>.ended (.stuck "range over a function: no such loop" pl) w))
   (match f'.roundOf with|none=>if (match jump with|none=>true|some .ret=>true|_=>false)=true then .go (G {f' with mode:=.returning} cs') w else .ended (.stuck "exit, goto: no such block or label" pa) w|some i=>GStep.after (seen E.P f'.fn ((Instr.endRound i jump).runT E.P w #[]).2) (match ((Instr.endRound i jump).runT E.P w #[]).1 with
     |.ok v w=>doReturn E.P ma f' cs' none v w|.halt _ w=>.ended (.stuck "range over a function: no such loop" pa) w)):=by
 intro hj;have hF:=hT.head;rcases hF.round with⟨h1,h2⟩|⟨i,i',h1,h2,hi⟩
 ·rw[h1,h2];clear hj;intro _;have go:Zbj E S B bs bs' l w (.go (G {fn:=f.fn,tmps:=f.tmps,todo:=f.todo,defers:=f.defers,mode:=.returning,kind:=f.kind} cs) l) (.go (G {fn:=f'.fn,tmps:=f'.tmps,todo:=f'.todo,defers:=f'.defers,mode:=.returning,kind:=f'.kind} cs') w):=Za4 hT hw ⟨hF.fn,hF.tmps,hF.todo,hF.defers,.inr ⟨rfl,rfl⟩,hF.kind,.inl ⟨rfl,rfl⟩⟩ h1.symm;rcases jump with _|c;·exact go
  ·cases c<;>first|exact go|exact trivial
 ·rw[h1,h2];dsimp only;simp only[Sem.runT_eq];intro hU;replace hU:=hU.after;cases hr:(Instr.endRound i jump).run E.P l with|halt x l'=>exact trivial|ok v l'=>rw[hr]at hU;have hb:=(Znz hi hj).both hw hS (by rw[hr];exact hU.doReturn);rw[hr]at hb;obtain⟨B1,v',w',new,g1,g2,g3,g4⟩:=hb;rw[g1,g2];refine Zk g3 ?_ fun e he=>Zu1 he;cases hT with|last f f' hf hr'=>rw[h1]at hr';cases hr'|cons f f' cs cs' hf hkn hs=>cases hs with|last c c' hc hr'=>exact Zd0 (.last _ _ (hc.mono g3.le) hr') g3.wr hF.kind.1 hkn g4|cons c c' cs cs' hc hkc hs=>exact Zd0 (.cons _ _ _ _ (hc.mono g3.le) hkc (hs.mono g3.le)) g3.wr hF.kind.1 hkn g4
theorem ZnG(hG:E.Fine) {f f':Frame} (hT:ST E B bs bs' (f::cs) (f'::cs')) (hw:WR E S B l w) (hS:∀b,S b->b<l.heap.size) (ml ma:Bool) (hm:f.mode=.run) (hm':f'.mode=.run) (hC:Chk E f):ZbQ S l (stepG.exec E.P ml true f cs none l)->Zbj E S B bs bs' l w (stepG.exec E.P ml true f cs none l) (stepG.exec E.P ma true f' cs' none w):=by have hF:=hT.head;have hEv:=hF.eval hw.glob;have hK:=hF.todo;unfold stepG.exec;obtain⟨fn,tm,k,ds,md,kd,rd⟩:=f;obtain⟨fn',tm',k',ds',md',kd',rd'⟩:=f';dsimp only at hm hm';subst hm hm';dsimp only at hK;cases hK with|nil=>exact ZgY hT hw hS none _ _ (by simp)|cons x x' k k' hx hs=>cases hx with
  |inBlock id=>exact fun _=>Za4 hT hw (hF.withTodo hs) rfl|inLoop c hc=>exact fun _=>Za4 hT hw (hF.withTodo (.cons _ _ _ _ (.code c hc) (.cons _ _ _ _ (.inLoop c hc) hs))) rfl|inScope c hc=>exact fun _=>Za4 hT hw (hF.withTodo hs) rfl|inRangeFunc i i' hi=>exact fun _=>trivial|mark=>exact absurd rfl hC|beginRound=>
   intro hU;refine ZgX hG (?_:SR E (QN E) B _ _) hT hw hS (hU.apply (ZwO _)).1;clear hU;rcases hF.round with⟨h1,h2⟩|⟨i,i',h1,h2,hi⟩;·dsimp only at h1 h2;subst h1 h2;exact SR.halt _ (.stuck _) _ trivial
   ·dsimp only at h1 h2;subst h1 h2;exact Za (ZnA hi) fun B1 _ _ h1 _=>Zx .skip|endRangeFunc i i' hi=>simp only[Sem.runT_eq];intro hU;replace hU:=hU.after;cases hr:(Instr.endLoop i).run E.P l with
   |halt x l'=>
    rw[hr]at hU;by_cases hx:∃v,x=.panic v;case neg=>cases x<;>first|exact trivial|exact absurd ⟨_,rfl⟩ hx
    obtain⟨v,rfl⟩:=hx;have hb:=(Zi5 hi).both hw hS (by rw[hr];exact hU.go);rw[hr]at hb;obtain⟨hq,B₁,l₁,w₁,new,h1,h2⟩:=hb;exact .inl ⟨_,cs,rfl,⟨_,rfl⟩,Zi4 (Zi3 hT h1.le h1.wr h2) rfl⟩|ok jump l'=>
    rw[hr]at hU;have hb:=(Zi5 hi).both hw hS (by rw[hr];exact hU.go);rw[hr]at hb;obtain⟨B1,jump',w',new,g1,g2,g3,rfl,hj⟩:=hb;rw[g1,g2];have hk2:KR E B1 ((jump.map Item.code).toList++k) ((jump.map Item.code).toList++k'):=by cases jump with
     |none=>exact hs.mono g3.le|some c=>exact .cons _ _ _ _ (.code c (E.ok_of (hj c rfl))) (hs.mono g3.le)
    have hF2:=(hF.mono g3.le).withTodo hk2;refine Zk g3 ?_ fun e he=>Zu1 he;exact Za4 (hT.mono g3.le) g3.wr hF2 rfl
  |inRegion ops td ho=>cases td with
   |nil=>exact fun _=>Za4 hT hw (hF.withTodo hs) rfl|cons i rest=>
    have ey:yielded ops tm=yielded ops tm':=by funext j;unfold yielded;cases hd:(ops[j]?).bind (·.dst)with|none=>rfl|some d=>have hA:=hF.tmps;dsimp only at hA;simp only[Zxc];cases hv:tm[d]? with|none=>rw[hA.none hv]|some v=>obtain⟨v',h1,h2⟩:=hA.get hv;rw[h1];cases h2<;>first|rfl|(rename_i hb;cases v'<;>first|rfl|(cases hb;done))
    dsimp only;rw[ey];by_cases hwant:((ops[i]?).map (Region.wanted · (yielded ops tm'))).getD false=true;·rw[if_pos hwant,if_pos hwant];unfold stepG.oper Frame.oper?;dsimp only;cases hoi:ops[i]? with
     |none=>exact fun _=>trivial|some o=>
      have hop:E.op o.op=true:=hC o hoi;have nd:∀c,o.op≠.defer c:=fun c hc=>by rw[hc]at hop;simp[Env.op,Env.op0,Env.darkOp]at hop
      dsimp only;have hA:=fun hU=>ZgX hG (ZgV hG hEv (fun g _=>rfl) hop) hT hw hS hU;split;·rename_i h;exact absurd h (nd _)
      ·split;·rename_i h;exact absurd h (nd _)
       ·exact fun hU=>hA (hU.apply (ZwO _)).1
    ·rw[if_neg hwant,if_neg hwant];exact fun _=>Za4 hT hw (hF.finish undefR) (ZcO _ _)
  |code c hc=>cases c with
   |skip=>exact fun _=>Za4 hT hw (hF.withTodo hs) rfl|label i=>exact fun _=>Za4 hT hw (hF.withTodo hs) rfl|ret=>exact ZgY hT hw hS (some .ret) _ _ (fun c hc=>by cases hc;rfl)|refuse why=>exact fun _=>trivial|goto i=>exact hC.elim|exit id=>
    rcases exitTo_r id hs with⟨h1,h2⟩|⟨r,r',h1,h2,h3⟩;·dsimp only;rw[h1,h2];exact ZgY hT hw hS (some (.exit id)) _ _ (fun c hc=>by cases hc;rfl)
    ·dsimp only;rw[h1,h2];exact fun _=>Za4 hT hw (hF.withTodo h3) rfl|region id ops draw=>have ho:E.free=false->ops.all (fun o=>E.op o.op)=true:=hc.2;cases draw with
    |false=>exact fun _=>Za4 hT hw (hF.withTodo (.cons _ _ _ _ (.inRegion ops _ ho) hs)) rfl|true=>
     have hfn:=hF.fn;dsimp only at hfn;subst hfn;have hR:=Zr hw;have h1:∀W:World,(choose (.order fn id)).run E.P W=.ok (W.tape W.drawn (.order fn id)) {W with drawn:=W.drawn+1}:=fun W=>by simp[choose,Sem.run,Question.forced,Question.cut]
     simp only[ZuU,if_false,ZuQ,h1];intro hU;have e:=hw.str 0 (.order fn id) (hU.go l.drawn (ZwO _) (by simp));simp only[ZwK]at e;rw[e];exact .inr ⟨_,cs,_,cs',_,#[],B,#[],rfl,rfl,hR,hT.top (hF.withTodo (.cons _ _ _ _ (.inRegion ops _ ho) hs)) (Blk.le_refl _) rfl,fun e h=>h⟩
   |seq a b=>
    have hn:=hc.1;have hc':=fun hf=>by have:=hc.2 hf;simp only[Env.code,ZuM]at this;exact this
    simp only[Zag,ZuM]at hn;exact fun _=>Za4 hT hw (hF.withTodo (.cons _ _ _ _ (.code a ⟨hn.1,fun hf=>(hc' hf).1⟩) (.cons _ _ _ _ (.code b ⟨hn.2,fun hf=>(hc' hf).2⟩) hs))) rfl|cond c a b=>
    have hn:=hc.1;have hc':=fun hf=>by have:=hc.2 hf;simp only[Env.code,ZuM]at this;exact this
    simp only[Zag,ZuM]at hn;have h0:E.operand c=true:=hC;have h1:E.ok a:=⟨hn.1,fun hf=>(hc' hf).1.2⟩;have h2:E.ok b:=⟨hn.2,fun hf=>(hc' hf).2⟩;have hv:=hEv c h0;dsimp only;generalize Frame.eval _ c=v at hv |-;generalize Frame.eval _ c=v' at hv |-;cases hv<;>try exact fun _=>trivial
    rename_i t;intro _;refine Za4 hT hw (hF.withTodo (.cons _ _ _ _ ?_ hs)) rfl;cases t;·exact .code b h2
    ·exact .code a h1|block id c=>exact fun _=>Za4 hT hw (hF.withTodo (.cons _ _ _ _ (.code c hc) (.cons _ _ _ _ (.inBlock id) hs))) rfl|loop c=>exact fun _=>Za4 hT hw (hF.withTodo (.cons _ _ _ _ (.code c hc) (.cons _ _ _ _ (.inLoop c hc) hs))) rfl|scope c=>exact fun _=>Za4 hT hw (hF.withTodo (.cons _ _ _ _ (.code c hc) (.cons _ _ _ _ (.inScope c hc) hs))) rfl|rangeFunc g ps as body=>obtain⟨h0,h1,h2⟩:=hC;have hfn:=hF.fn;dsimp only at hfn;subst hfn;simp only[Sem.runT_eq];intro hU;replace hU:=hU.after;cases hr:(Instr.enterLoop fn tm ps as body rd).run E.P l with|halt x l'=>exact trivial|ok y l'=>
     rw[hr]at hU;have hm:=ZfC hr;have hb:=(ZnB fn hF.tmps ps as body h1 h2 hF.round).both hw hS (by dsimp only;rw[hr];exact(hU.apply hm).2);dsimp only at hb;rw[hr]at hb;obtain⟨B1,y',w',new,g1,g2,g3,g4⟩:=hb;rw[g1,g2];obtain⟨i,mk⟩:=y;obtain⟨i',mk'⟩:=y';obtain⟨hi,hmk⟩:=g4;dsimp only at hi hmk |-;have hdef:DR B1 (mk++ds) (mk'++ds'):=by exact Zi7 hmk (hF.defers.mono g3.le)
     have hF1:FR E B1 ⟨fn,tm,.inRangeFunc i::k,mk++ds,.run,kd,rd⟩ ⟨fn,tm',.inRangeFunc i'::k',mk'++ds',.run,kd',rd'⟩:=by have hF':=hF.mono g3.le;exact⟨rfl,hF'.tmps,.cons _ _ _ _ (.inRangeFunc i i' hi) (hs.mono g3.le),hdef,.inl ⟨rfl,rfl⟩,hF'.kind,hF'.round⟩
     have hT1:ST E B1 bs bs' (⟨fn,tm,.inRangeFunc i::k,mk++ds,.run,kd,rd⟩::cs) (⟨fn,tm',.inRangeFunc i'::k',mk'++ds',.run,kd',rd'⟩::cs'):=hT.top hF1 g3.le rfl;refine Zk g3 (ZgX hG (?_:SR E (QN E) B1 _ _) hT1 g3.wr (fun b hb=>ZwS (hS b hb) g3.size.2.1) (hU.apply hm).1) fun e he=>Zu1 he;have hv:=hF1.eval g3.wr.glob g h0;have hy:AR E B1 #[.func (.yield i) #[] #[]] #[.func (.yield i') #[] #[]]:=AR.one (Zl (.yield _ _ hi) AR.empty AR.empty);unfold resolve;dsimp only;simp only[Zwe,Zwa,Zwc];generalize Frame.eval _ g=v at hv |-;generalize Frame.eval _ g=v' at hv |-;unfold Deferred.ofValue;cases hv<;>try exact SR.halt _ (.stuck _) _ trivial
     ·rename_i fn fn' ys ys' zs zs' hfn hy1 hy2 hz1 hz2;refine Za (Q:=fun B (d d':Deferred)=>TR E B d.target d'.target/\AR E B d.args d'.args) (Zx ⟨?_,AR.append ⟨hy1,hy2⟩ hy⟩) fun B2 d d' h2 hd=>ZgR hG hd.1 hd.2;cases hfn with
      |func f hf=>exact .func f _ _ hf ⟨hz1,hz2⟩|yield l l' hl=>exact .yield l l' _ _ hl
     ·exact Za (Q:=fun B (d d':Deferred)=>TR E B d.target d'.target/\AR E B d.args d'.args) (Zx ⟨.nil,hy⟩) fun B2 d d' h2 hd=>ZgR hG hd.1 hd.2
theorem ZnH{f f':Frame} (hT:ST E B bs bs' (f::cs) (f'::cs')) (hw:WR E S B l w) (hS:∀b,S b->b<l.heap.size) (ml ma:Bool) (hm:f.mode=.returning) (hm':f'.mode=.returning)(hbase:f.defers=[]->ST E B bs bs' cs cs'/\f'.kind=.normal):ZbQ S l (unwind E.P ml f cs none l)->Zbj E S B bs bs' l w (unwind E.P ml f cs none l) (unwind E.P ma f' cs' none w):=by have hF:=hT.head;have hD:=hF.defers;unfold unwind;obtain⟨fn,tm,k,ds,md,kd,rd⟩:=f;obtain⟨fn',tm',k',ds',md',kd',rd'⟩:=f';dsimp only at hm hm' hD hbase;subst hm hm';have hfn:=hF.fn;dsimp only at hfn;subst hfn;cases hD with
 |nil=>obtain⟨hST,hkn⟩:=hbase rfl;dsimp only;cases hpf:E.P.funcs[fn]? with
  |none=>dsimp only;intro _;cases hST with
   |last c c' hc hr'=>exact Zd0 (.last _ _ hc hr') hw hF.kind.1 hkn (hF.tmps.getD 0 undefR)|cons c c' cs cs' hc hkc hs=>exact Zd0 (.cons _ _ _ _ hc hkc hs) hw hF.kind.1 hkn (hF.tmps.getD 0 undefR)
  |some F=>dsimp only;simp only[Sem.runT_eq];intro hU;replace hU:=hU.after;cases hr:(results F tm).run E.P l with|halt x l'=>cases x<;>exact trivial|ok v l'=>rw[hr]at hU;have hb:=(ZeF F hF.tmps).both hw hS (by dsimp only;rw[hr];exact hU.doReturn);dsimp only at hb;rw[hr]at hb;obtain⟨B1,v',w',new,g1,g2,g3,g4⟩:=hb;rw[g1,g2];refine Zk g3 ?_ fun e he=>Zu1 he;cases hST with|last c c' hc hr'=>exact Zd0 (.last _ _ (hc.mono g3.le) hr') g3.wr hF.kind.1 hkn g4|cons c c' cs cs' hc hkc hs=>exact Zd0 (.cons _ _ _ _ (hc.mono g3.le) hkc (hs.mono g3.le)) g3.wr hF.kind.1 hkn g4
 |cons r r' k1 k1' hr hs=>simp only[Sem.runT_eq];intro hU;replace hU:=hU.after;cases hrun:(Instr.takeDeferred r).run E.P l with|halt x l'=>exact trivial|ok v l'=>rw[hrun]at hU;have hb:=(ZnC hr).both hw hS (by rw[hrun];exact hU.go);rw[hrun]at hb;obtain⟨B1,v',w',new,g1,g2,g3,rfl,rfl⟩:=hb;rw[g1,g2];refine Zk g3 ?_ fun e he=>Zu1 he;have hF':=hF.mono g3.le;refine Za4 (hT.mono g3.le) g3.wr ⟨rfl,hF'.tmps,hF'.todo,?_,.inr ⟨rfl,rfl⟩,hF'.kind,hF'.round⟩ rfl;simpa using hs.mono g3.le
theorem ZeG(hG:E.Fine) {f f':Frame} (hT:ST E B bs bs' (f::cs) (f'::cs')) (hw:WR E S B l w) (hS:∀b,S b->b<l.heap.size) (ml ma:Bool)(hC:f.mode=.run->Chk E f) (hbase:f.mode=.returning->f.defers=[]->ST E B bs bs' cs cs'/\f'.kind=.normal):ZbQ S l (stepG E.P ml (G f cs) l)->Zbj E S B bs bs' l w (stepG E.P ml (G f cs) l) (stepG E.P ma (G f' cs') w):=by
 rcases hT.head.mode with⟨h1,h2⟩|⟨h1,h2⟩
 ·have e1:stepG E.P ml (G f cs) l=stepG.exec E.P ml true f cs none l:=by simp[stepG,G,h1]
  have e2:stepG E.P ma (G f' cs') w=stepG.exec E.P ma true f' cs' none w:=by simp[stepG,G,h2]
  rw[e1,e2];exact ZnG hG hT hw hS ml ma h1 h2 (hC h1)
 ·have e1:stepG E.P ml (G f cs) l=unwind E.P ml f cs none l:=by simp[stepG,G,h1]
  have e2:stepG E.P ma (G f' cs') w=unwind E.P ma f' cs' none w:=by simp[stepG,G,h2]
  rw[e1,e2];exact ZnH hT hw hS ml ma h1 h2 (hbase h1)
end
def _root_.Go.World.re(w:World)(t:Nat->Question->Nat)(d:Nat):World:={w with tape:=t,drawn:=d}
inductive LG (E:Env)(Stop:Frame->List Frame->World->Prop):Frame->List Frame->World->Prop|stop (f:Frame)(cs:List Frame)(l:World)(h:Stop f cs l):LG E Stop f cs l|step (f:Frame) (cs:List Frame) (l:World) (hc:f.mode=.run->Chk E f) (h:∀t d,∃f' cs' l' es,stepG E.P true (G f cs) (l.re t d)=.go (G f' cs') l' es)(hs:∀t d f' cs' l' es,stepG E.P true (G f cs) (l.re t d)=.go (G f' cs') l' es->LG E Stop f' cs' l'):LG E Stop f cs l
structure Strict (E:Env):Prop where
 free:E.free=false
 junk:E.junk=false
 dfr:∀f,E.dfr f=false
 tab:E.tab=.refuse "#"
section
variable {E:Env} {B:Blk}
theorem IR.eq(hF:E.junk=false/\E.tab=.refuse "#")(hB:∀b b',B b b'->b=b') {x x':Item} (h:IR E B x x'):x=x':=by cases h with|inRangeFunc l l' hl=>rw[hB _ _ hl]|endRangeFunc l l' hl=>rw[hB _ _ hl]|mark=>rw[hF.2]|_=>rfl
theorem KR.eq(hF:E.junk=false/\E.tab=.refuse "#")(hB:∀b b',B b b'->b=b') {x x':List Item} (h:KR E B x x'):x=x':=by induction h with|nil=>rfl|cons x x' k k' hx hs ih=>rw[hx.eq hF hB,ih]
theorem DR.eq(hF:E.junk=false)(hB:∀b b',B b b'->b=b') {x x':List Deferred} (h:DR B x x'):x=x':=by induction h with|nil=>rfl|cons r r' k k' hx hs ih=>rw[hB _ _ hx,ih]
theorem AR.eq(hF:E.junk=false)(hB:∀b b',B b b'->b=b') {x x':Array Value} (h:AR E B x x'):x=x':=Array.ext h.size fun i h1 h2=>(h.at_ i _ _ (Zum h1) (Zum h2)).eq_of hF hB
theorem FR.eq(hF:Strict E)(hB:∀b b',B b b'->b=b') {f f':Frame} (h:FR E B f f'):f=f':=by
 obtain⟨fn,tmps,todo,defers,mode,kind,round⟩:=h;obtain⟨fn1,t1,k1,d1,m1,c1,r1⟩:=f;obtain⟨fn2,t2,k2,d2,m2,c2,r2⟩:=f';dsimp only at*;have e1:=tmps.eq hF.junk hB;have e2:=todo.eq ⟨hF.junk,hF.tab⟩ hB;have e3:=defers.eq hF.junk hB;subst fn e1 e2 e3;have e4:m1=m2:=by rcases mode with⟨rfl,rfl⟩|⟨rfl,rfl⟩<;>rfl
 have e5:c1=c2:=by
  rcases kind.2 with h|⟨h,_⟩;·rw[kind.1,h]
  ·rw[hF.dfr]at h;cases h
 have e6:r1=r2:=by
  rcases round with⟨rfl,rfl⟩|⟨l,l',rfl,rfl,hl⟩;·rfl
  ·rw[hB _ _ hl]
 rw[e4,e5,e6]
theorem ST.eq(hF:Strict E)(hB:∀b b',B b b'->b=b') {bs cs cs':List Frame} (h:ST E B bs bs cs cs'):cs=cs':=by induction h with|last f f' hf hr=>rw[hf.eq hF hB]|cons f f' cs cs' hf hk hs ih=>rw[hf.eq hF hB,ih]
theorem OR.eq(hF:E.junk=false)(hB:∀b b',B b b'->b=b') {o o':Obj} (h:OR E B o o'):o=o':=by cases h with|cells c c' T f hc=>rw[hc.eq hF hB]|loop s p f t t' ps as body d d' hp ht ha hb hd=>rw[ht.eq hF hB,hB _ _ hd]|number a a' lost h=>rw[h.eq hB]|_=>rfl
structure Own (E:Env)(sh:Nat->Prop)(bs:List Frame)(f:Frame)(cs:List Frame)(l:World)(B:Blk):Prop where
 st:ST E B bs bs (f::cs) (f::cs)
 wr:WR E ⟨sh,fun _=>True⟩ B l l
 low:∀b,sh b->b<l.heap.size
 idn:∀b b',B b b'->b=b'
theorem WR.retape{S S':Side} {B:Blk} {l w l' w':World} (h:WR E S B l w)(hl:l'.heap=l.heap)(hw:w'.heap=w.heap)(hS:S'.sh=S.sh)(str:∀i q,S'.till (l'.drawn+i)->l'.tape (l'.drawn+i) q=w'.tape (w'.drawn+i) q):WR E S' B l' w':=by
 refine⟨h.fn,h.inj,fun b b' hb=>by rw[hl,hw];exact h.dom b b' hb,fun b b' hb hs=>?_,fun b b' hb hs=>?_,str,h.glob,h.low,by rw[hl,hw];exact h.gsz,fun hs=>?_,fun g hg=>by rw[hl];exact h.dark g hg⟩;·rw[hl,hw];exact h.obj b b' hb (by rw[<-hS];exact hs)
 ·rw[hl,hw];exact h.shr b b' hb (by rw[<-hS];exact hs)
 ·obtain⟨h1,h2,h3⟩:=h.sh hs;exact⟨by rw[hS];exact h1,by rw[hl,hw];exact h2,h3⟩
theorem Own.re{sh:Nat->Prop} {bs cs:List Frame} {f:Frame} {l:World} {B:Blk} (h:Own E sh bs f cs l B)(t:Nat->Question->Nat)(d:Nat):Own E sh bs f cs (l.re t d) B:=⟨h.st,h.wr.retape rfl rfl rfl fun _ _ _=>rfl,h.low,h.idn⟩
def Zbx(bs:List Frame)(f:Frame)(cs:List Frame):Prop:=(f.mode=.returning/\f.defers=[]/\cs=bs)∨(f.mode=.run/\ZgW f)
theorem ZeH{bs bs' cs cs':List Frame} {f f':Frame} (h:ST E B bs bs' (f::cs) (f'::cs')) (hn:¬Zbx bs f cs):f.mode=.returning->f.defers=[]->ST E B bs bs' cs cs'/\f'.kind=.normal:=by intro h1 h2;cases h with|last f f' hf hr=>exact absurd (.inl ⟨h1,h2,rfl⟩) hn|cons f f' cs cs' hf hk hs=>exact⟨hs,hk⟩
theorem ZfD(hG:E.Fine)(hF:Strict E) {sh:Nat->Prop} {bs cs:List Frame} {f:Frame} {l:World} {B:Blk} (h:Own E sh bs f cs l B)(hn:¬Zbx bs f cs) {g':Goroutine} {l':World} {es:Array Event} (hs:stepG E.P true (G f cs) l=.go g' l' es)(t:Nat->Question->Nat)(d:Nat)(ht:∀i q,l.drawn+i<l'.drawn->l.tape (l.drawn+i) q=t (d+i) q):∃f' cs',g'=G f' cs'/\(PK l' bs f' cs'∨((∃B',Own E sh bs f' cs' l' B')/\l.drawn<=l'.drawn/\l'.tape=l.tape/\∃es',stepG E.P true (G f cs) (l.re t d)=.go (G f' cs') (l'.re t (d+(l'.drawn-l.drawn))) es')):=by
 have hw:WR E ⟨sh,fun j=>l.drawn<=j/\j<l'.drawn⟩ B l (l.re t d):=h.wr.retape rfl rfl rfl fun i q hi=>ht i q hi.2;have:=ZeG hG h.st hw h.low true true (fun hm=>h.st.head.chk hF.free fun hk=>hn (.inr ⟨hm,hk⟩)) (ZeH h.st hn) (.inr ⟨g',l',es,hs,fun j h1 h2=>⟨h1,h2⟩⟩);rw[hs]at this;rcases this with⟨f',cs',rfl,hp⟩|⟨f',cs',fa,ca,w',es',B',new,rfl,h2,h3,h4,h5⟩;·exact⟨f',cs',rfl,.inl hp⟩
 ·refine⟨f',cs',rfl,.inr ?_⟩;have hid:∀b b',B' b b'->b=b':=by
   intro b b' hb;rcases h3.al b b' hb with x|⟨x1,x2,x3⟩;·exact h.idn _ _ x
   ·have:(l.re t d).heap.size=l.heap.size:=rfl;omega
  have e1:=h4.eq hF hid;simp only[Zvl]at e1;obtain⟨rfl,rfl⟩:=e1;have hheap:w'.heap=l'.heap:=by
   have hsz:w'.heap.size=l'.heap.size:=by have:=h3.size.2.2;have h0:(l.re t d).heap.size=l.heap.size:=rfl;omega
   apply Zug;intro b;by_cases hb:∃b',B' b b'/\¬sh b;·obtain⟨b',hb,hs⟩:=hb;obtain rfl:=hid _ _ hb;obtain⟨o,o',h6,h7,h8⟩:=h3.wr.obj _ _ hb hs;rw[h6,h7,h8.eq hF.junk hid]
   ·have hb:∀b',B' b b'->sh b:=fun b' x=>Classical.byContradiction fun hs=>hb ⟨b',x,hs⟩;by_cases hlt:b<l.heap.size
    ·rw[h3.lkeep b hlt fun b' x=>hb b' (h3.le _ _ x)];exact h3.keep b hlt fun c x=>by have:=h.idn _ _ x;subst this;exact hb _ (h3.le _ _ x)
    ·by_cases hlt':b<l'.heap.size;·obtain⟨b',x⟩:=h3.cov b (by omega) hlt';exact absurd (h.low b (hb b' x)) hlt
     ·rw[Zun (by omega),Zun (by omega)]
  have hw':w'=l'.re t (d+(l'.drawn-l.drawn)):=by obtain⟨s1,s2,s3,s4⟩:=h3.same;obtain⟨r1,r2,r3,r4⟩:=h3.lone;have hd:=h3.draws;obtain⟨wh,wt,wd,wo,wx⟩:=w';obtain⟨lh,lt,ld,lo,lx⟩:=l';simp only[World.re]at*;subst hheap s1 s2 s3;rw[r1,r2];congr 1;omega
  refine⟨⟨B',h4,?_,fun b hb=>ZwS (h.low b hb) h3.size.2.1,hid⟩,h3.lone.2.2.2,h3.lone.2.2.1,es',hw'▸h2⟩;exact h3.wr.retape rfl (by rw[hheap]) rfl fun _ _ _=>rfl
end
def ZD(P:Program):Frame:={fn:=P.funcs.size,tmps:=#[],todo:=[.code (.refuse "")],defers:=[{target:=.nil,args:=#[]}],mode:=.run,kind:=.normal}
def ZbR(P:Program)(f:Frame)(cs:List Frame)(l:World):Prop:=PK l [ZD P] f cs∨(cs=[]/\(f=ZD P∨∃chain,f={ZD P with mode:=.panicking chain}))
section
variable {E:Env} {P:Program}
theorem lost_step{f:Frame} {cs:List Frame} {l:World} (h:ZbR P f cs l):(∃o w es,stepG P true (G f cs) l=.ended o w es)∨∃f' cs' l' es,stepG P true (G f cs) l=.go (G f' cs') l' es/\ZbR P f' cs' l':=by
 rcases h with⟨⟨chain,hm⟩,hT⟩|⟨rfl,rfl|⟨chain,rfl⟩⟩
 ·have e1:stepG P true (G f cs) l=unwind P true f cs none l:=by simp[stepG,G,hm]
  rw[e1];have hM:Zdq l f:=by cases hT<;>assumption
  obtain⟨fn,tm,k,ds,md,kd,rd⟩:=f;dsimp only at hm;subst hm;unfold unwind;cases ds with
  |cons d ds=>
   obtain⟨r,rfl,hr⟩:=hM d (by simp);simp only[Sem.runT_eq];have hrun:(∃x,(Instr.takeDeferred r).run P l=.halt x l)∨(Instr.takeDeferred r).run P l=.ok [] {l with heap:=l.heap.setIfInBounds r (.deferred none)}:=by unfold Instr.takeDeferred;simp only[Sem.run_bind,getObj,Sem.run];cases ho:l.heap[r]? with|none=>exact .inl ⟨_,rfl⟩|some o=>cases o with
     |deferred c=>cases c with|none=>exact .inl ⟨_,rfl⟩|some ds=>obtain rfl:=hr ds ho;refine .inr ?_;simp[Result.andThen,setObj,Sem.run,ho]
     |_=>exact .inl ⟨_,rfl⟩
   rcases hrun with⟨x,hx⟩|hx;·rw[hx];exact .inl ⟨_,_,_,rfl⟩
   ·rw[hx];refine .inr ⟨_,cs,_,_,rfl,.inl ⟨⟨chain,rfl⟩,?_⟩⟩;have hset:∀(fr:Frame),Zdq l fr->Zdq {l with heap:=l.heap.setIfInBounds r (.deferred none)} fr:=by
     intro fr hfr d hd;obtain⟨r',h1,h2⟩:=hfr d hd;refine⟨r',h1,fun ds hds=>?_⟩;dsimp only at hds;rw[Zuv]at hds;split at hds;·split at hds<;>cases hds
     ·exact h2 ds hds
    have hmap:∀{st:List Frame},Tow l [ZD P] st->Tow {l with heap:=l.heap.setIfInBounds r (.deferred none)} [ZD P] st:=by intro st hst;induction hst with
     |last f h=>exact .last f (hset f h)|cons f cs h hs ih=>exact .cons f cs (hset f h) ih
    have hM':Zdq {l with heap:=l.heap.setIfInBounds r (.deferred none)} ⟨fn,tm,k,[]++ds,.panicking chain,kd,rd⟩:=fun d hd=>hset _ hM d (by simp at hd |-;exact .inr hd);cases hT with|last f h=>exact .last _ hM'|cons f cs h hs=>exact .cons _ _ hM' (hmap hs)
  |nil=>
   dsimp only;split;·exact .inl ⟨_,_,_,rfl⟩
   ·cases hT with|last f h=>exact .inr ⟨_,[],l,_,rfl,.inr ⟨rfl,.inr ⟨chain,rfl⟩⟩⟩|cons f cs h hs=>cases hs with
     |last c hc=>
      refine .inr ⟨c.raise chain,[ZD P],l,_,rfl,.inl ⟨?_,.last _ ?_⟩⟩;·unfold Frame.raise;split<;>exact⟨_,rfl⟩
      ·intro d hd;refine hc d ?_;unfold Frame.raise at hd;split at hd<;>exact hd|cons c cs hc hs=>
      refine .inr ⟨c.raise chain,cs,l,_,rfl,.inl ⟨?_,.cons _ _ ?_ hs⟩⟩;·unfold Frame.raise;split<;>exact⟨_,rfl⟩
      ·intro d hd;refine hc d ?_;unfold Frame.raise at hd;split at hd<;>exact hd
 ·exact .inl ⟨_,_,_,rfl⟩
 ·exact .inl ⟨_,_,_,rfl⟩
theorem Zct{f f':Frame} {cs cs':List Frame} {l l':World} {es:Array Event} (h:stepG P true (G f cs) l=.go (G f' cs') l' es):step P (lone f cs l)=.next (lone f' cs' l'):=by refine step_lone_go ?_;have:stepG P true {frame:=f,callers:=cs,status:=.running,dying:=none} l=stepG P true (G f cs) l:=rfl;rw[this,h];rfl
theorem ZeI{f:Frame} {cs:List Frame} {l l':World} {o:Outcome} {es:Array Event} (h:stepG P true (G f cs) l=.ended o l' es):step P (lone f cs l)=.ended o l':=by refine step_lone_ended ?_;have:stepG P true {frame:=f,callers:=cs,status:=.running,dying:=none} l=stepG P true (G f cs) l:=rfl;rw[this,h];rfl
theorem ZfE{f f':Frame} {cs cs':List Frame} {l l':World} (h:lone f cs l=lone f' cs' l'):f=f'/\cs=cs'/\l=l':=by unfold lone at h;simp only[Machine.mk.injEq,Array.mk.injEq,Zvl,Goroutine.mk.injEq,and_true,true_and]at h;exact⟨h.2.1,h.2.2,h.1⟩
theorem ZeJ:∀(n:Nat){f f₁:Frame} {cs cs₁:List Frame} {l l₁:World},ZbR P f cs l->runN P n (lone f cs l)=.next (lone f₁ cs₁ l₁)->ZbR P f₁ cs₁ l₁
 |0,f,f₁,cs,cs₁,l,l₁,h,hr=>by simp only[runN,Stepped.next.injEq]at hr;obtain⟨rfl,rfl,rfl⟩:=ZfE hr;exact h|n+1,f,f₁,cs,cs₁,l,l₁,h,hr=>by
  simp only[runN]at hr;rcases lost_step h with⟨o,w,es,h1⟩|⟨f',cs',l',es,h1,h2⟩;·rw[ZeI h1]at hr;cases hr
  ·rw[Zct h1]at hr;exact ZeJ n h2 hr
end
section
variable {E:Env} {sh:Nat->Prop} {B:Blk}
theorem own_kind(hG:E.Fine)(hF:Strict E) {bs cs:List Frame} {f:Frame} {l:World} (h:Own E sh bs f cs l B)(hn:¬Zbx bs f cs):(∃o w es,stepG E.P true (G f cs) l=.ended o w es)∨∃g' l' es,stepG E.P true (G f cs) l=.go g' l' es:=by have:=ZeG hG h.st h.wr h.low true true (fun hm=>h.st.head.chk hF.free fun hk=>hn (.inr ⟨hm,hk⟩)) (ZeH h.st hn) (.inl fun _=>trivial);cases hs:stepG E.P true (G f cs) l with|ended o w es=>exact .inl ⟨_,_,_,rfl⟩|go g w es=>exact .inr ⟨_,_,_,rfl⟩|_=>rw[hs]at this;exact this.elim
theorem atOut_step{f:Frame} {cs:List Frame} {l:World} (h:Own E sh [ZD E.P] f cs l B)(ho:Zbx [ZD E.P] f cs):(∃o w es,stepG E.P true (G f cs) l=.ended o w es)∨∃f' cs' l' es,stepG E.P true (G f cs) l=.go (G f' cs') l' es/\ZbR E.P f' cs' l':=by
 rcases ho with⟨h1,h2,rfl⟩|⟨h1,k,h2⟩;case inr=>refine .inl ?_;obtain⟨fn,tm,k',ds,md,kd,rd⟩:=f;dsimp only at h1 h2;subst h1 h2;exact⟨_,_,_,rfl⟩
 have hk:=h.st.head.kind.1;have e1:stepG E.P true (G f [ZD E.P]) l=unwind E.P true f [ZD E.P] none l:=by simp[stepG,G,h1]
 rw[e1];obtain⟨fn,tm,k,ds,md,kd,rd⟩:=f;dsimp only at h1 h2 hk;subst h1 h2 hk;have hret:∀v w,doReturn E.P true ⟨fn,tm,k,[],.returning,.normal,rd⟩ [ZD E.P] none v w=.go (G (ZD E.P) []) w:=fun v w=>rfl;unfold unwind;dsimp only;cases hpf:E.P.funcs[fn]? with|none=>exact .inr ⟨_,[],l,_,hret _ _,.inr ⟨rfl,.inl rfl⟩⟩|some F=>dsimp only;simp only[Sem.runT_eq];cases hr:(results F tm).run E.P l with|halt x l'=>cases x<;>exact .inl ⟨_,_,_,rfl⟩|ok v l'=>exact .inr ⟨_,[],l',_,by dsimp only;rw[hret];rfl,.inr ⟨rfl,.inl rfl⟩⟩
structure Halts (Stop:Frame->List Frame->World->Prop):Prop where
 call:∀f cs l,Stop f cs l->cs≠[]/\∀c,f.mode≠.panicking c
 tape:∀f cs l t d,Stop f cs l->Stop f cs (l.re t d)
theorem ZeK{P:Program} {Stop:Frame->List Frame->World->Prop} (hS:Halts Stop) {f:Frame} {cs:List Frame} {l:World} (h:Stop f cs l):¬ZbR P f cs l:=by
 obtain⟨h1,h2⟩:=hS.call _ _ _ h;rintro(⟨⟨c,hc⟩,_⟩|⟨hc,_⟩);·exact h2 c hc
 ·exact h1 hc
theorem Zi8(hG:E.Fine)(hF:Strict E) {Stop:Frame->List Frame->World->Prop} (hS:Halts Stop):∀(n:Nat) {f f₁:Frame} {cs cs₁:List Frame} {l l₁:World} {B:Blk} (t:Nat->Question->Nat)(d:Nat),Own E sh [ZD E.P] f cs l B->(∀i q,l.tape (l.drawn+i) q=t (d+i) q)->runN E.P n (lone f cs l)=.next (lone f₁ cs₁ l₁)->Stop f₁ cs₁ l₁->∃d₁,runN E.P n (lone f cs (l.re t d))=.next (lone f₁ cs₁ (l₁.re t d₁))
 |0,f,f₁,cs,cs₁,l,l₁,B,t,d,h,ht,hr,hs=>by simp only[runN,Stepped.next.injEq]at hr;obtain⟨rfl,rfl,rfl⟩:=ZfE hr;exact⟨d,rfl⟩|n+1,f,f₁,cs,cs₁,l,l₁,B,t,d,h,ht,hr,hs=>by
  simp only[runN]at hr;by_cases ho:Zbx [ZD E.P] f cs
  ·exfalso;rcases atOut_step h ho with⟨o,w,es,h1⟩|⟨f',cs',l',es,h1,h2⟩;·rw[ZeI h1]at hr;cases hr
   ·rw[Zct h1]at hr;exact ZeK hS hs (ZeJ n h2 hr)
  ·rcases own_kind hG hF h ho with⟨o,w,es,h1⟩|⟨g',l',es,h1⟩;·rw[ZeI h1]at hr;cases hr
   ·obtain⟨f',cs',rfl,hp|⟨⟨B',hO⟩,hd,htp,es',h2⟩⟩:=ZfD hG hF h ho h1 t d fun i q _=>ht i q;·exfalso;rw[Zct h1]at hr;exact ZeK hS hs (ZeJ n (.inl hp) hr)
    ·rw[Zct h1]at hr;obtain⟨d₁,h3⟩:=Zi8 hG hF hS n t (d+(l'.drawn-l.drawn)) hO (fun i q=>by
      have:=ht (l'.drawn-l.drawn+i) q;rw[htp];have e1:l.drawn+(l'.drawn-l.drawn+i)=l'.drawn+i:=by omega
      have e2:d+(l'.drawn-l.drawn+i)=d+(l'.drawn-l.drawn)+i:=by omega
      rw[e1,e2]at this;exact this) hr hs;refine⟨d₁,?_⟩;simp only[runN];rw[Zct h2];exact h3
end
structure St where
 f:Frame
 cs:List Frame
 l:World
section
variable {E:Env} {sh:Nat->Prop} {Stop:Frame->List Frame->World->Prop}
def ZgZ(E:Env)(sh:Nat->Prop)(Stop:Frame->List Frame->World->Prop)(s:St):Prop:=(∃B,Own E sh [ZD E.P] s.f s.cs s.l B)/\∀t d,∃n f₁ cs₁ l₁,runN E.P n (lone s.f s.cs (s.l.re t d))=.next (lone f₁ cs₁ l₁)/\Stop f₁ cs₁ l₁
def Bad(E:Env)(sh:Nat->Prop)(Stop:Frame->List Frame->World->Prop)(s:St):Prop:=ZgZ E sh Stop s/\¬LG E Stop s.f s.cs s.l
theorem ZnI(hG:E.Fine)(hF:Strict E)(hS:Halts Stop) {s:St} (h:ZgZ E sh Stop s)(hn:¬Stop s.f s.cs s.l)(t:Nat->Question->Nat)(d:Nat):∃s₁:St,(∃es,stepG E.P true (G s.f s.cs) (s.l.re t d)=.go (G s₁.f s₁.cs) s₁.l es)/\(∃B,Own E sh [ZD E.P] s₁.f s₁.cs s₁.l B)/\d<=s₁.l.drawn/\s₁.l.tape=t/\¬Zbx [ZD E.P] s.f s.cs/\∃n f₁ cs₁ l₁,runN E.P n (lone s₁.f s₁.cs s₁.l)=.next (lone f₁ cs₁ l₁)/\Stop f₁ cs₁ l₁:=by obtain⟨⟨B,hO⟩,hc⟩:=h;obtain⟨n,f₁,cs₁,l₁,hr,hs⟩:=hc t d;have hO':=hO.re t d;cases n with|zero=>simp only[runN,Stepped.next.injEq]at hr;obtain⟨h1,h2,h3⟩:=ZfE hr;subst h1 h2 h3;exact absurd (hS.tape _ _ _ s.l.tape s.l.drawn hs) hn|succ n=>
  simp only[runN]at hr;by_cases ho:Zbx [ZD E.P] s.f s.cs
  ·exfalso;rcases atOut_step hO' ho with⟨o,w,es,h1⟩|⟨f',cs',l',es,h1,h2⟩;·rw[ZeI h1]at hr;cases hr
   ·rw[Zct h1]at hr;exact ZeK hS hs (ZeJ n h2 hr)
  ·rcases own_kind hG hF hO' ho with⟨o,w,es,h1⟩|⟨g',l',es,h1⟩;·rw[ZeI h1]at hr;cases hr
   ·obtain⟨f',cs',rfl,hp|⟨hB,hd,htp,es',h2⟩⟩:=ZfD hG hF hO' ho h1 t d fun i q _=>rfl;·exfalso;rw[Zct h1]at hr;exact ZeK hS hs (ZeJ n (.inl hp) hr)
    ·rw[Zct h1]at hr;exact⟨⟨f',cs',l'⟩,⟨es,h1⟩,hB,hd,htp,ho,n,f₁,cs₁,l₁,hr,hs⟩
theorem ZnJ(hG:E.Fine) (hF:Strict E) (hS:Halts Stop) {s:St} (h:Bad E sh Stop s):∃(t:Nat->Question->Nat) (d:Nat) (s₁:St),Bad E sh Stop s₁/\(∃es,stepG E.P true (G s.f s.cs) (s.l.re t d)=.go (G s₁.f s₁.cs) s₁.l es)/\d<=s₁.l.drawn/\s₁.l.tape=t/\¬Zbx [ZD E.P] s.f s.cs:=by
 obtain⟨hC,hL⟩:=h;obtain⟨B0,hO0⟩:=hC.1;have hn:¬Stop s.f s.cs s.l:=fun hs=>hL (.stop _ _ _ hs);have hgo:=ZnI hG hF hS hC hn;have hno0:¬Zbx [ZD E.P] s.f s.cs:=by obtain⟨_,_,_,_,_,h5,_⟩:=hgo s.l.tape s.l.drawn;exact h5
 have:∃t d f' cs' l' es,stepG E.P true (G s.f s.cs) (s.l.re t d)=.go (G f' cs') l' es/\¬LG E Stop f' cs' l':=by
  apply Classical.byContradiction;intro hno;refine hL (.step _ _ _ (fun hm=>hO0.st.head.chk hF.free fun hk=>hno0 (.inr ⟨hm,hk⟩)) (fun t d=>?_) fun t d f' cs' l' es hs=>?_);·obtain⟨s₁,⟨es,h1⟩,_⟩:=hgo t d;exact⟨_,_,_,_,h1⟩
  ·exact Classical.byContradiction fun hl=>hno ⟨t,d,f',cs',l',es,hs,hl⟩
 obtain⟨t,d,f',cs',l',es,hs,hl⟩:=this;obtain⟨s₁,⟨es',h1⟩,hB,hd,htp,ho,_⟩:=hgo t d;have e:G f' cs'=G s₁.f s₁.cs/\l'=s₁.l:=by rw[hs]at h1;cases h1;exact⟨rfl,rfl⟩
 obtain⟨e1,rfl⟩:=e;have e2:f'=s₁.f/\cs'=s₁.cs:=by unfold G at e1;simp only[Goroutine.mk.injEq]at e1;exact⟨e1.1,e1.2.1⟩
 obtain⟨rfl,rfl⟩:=e2;refine⟨t,d,s₁,⟨⟨hB,fun t' d'=>?_⟩,hl⟩,⟨es,hs⟩,hd,htp,ho⟩;let t'':Nat->Question->Nat:=fun j q=>if j<s₁.l.drawn then t j q else t' (j-s₁.l.drawn+d') q;obtain⟨⟨B,hO⟩,hc⟩:=hC;obtain⟨s₂,⟨es2,h2⟩,hB2,hd2,htp2,_,n,f₁,cs₁,l₁,hr,hst⟩:=hgo t'' d;obtain⟨f3,cs3,e3,hp|⟨_,_,_,es3,h3⟩⟩:=ZfD hG hF (hO.re t d) ho hs t'' d (fun i q hi=>by show t (d+i) q=t'' (d+i) q;have hi':d+i<s₁.l.drawn:=hi;simp only[t'',hi',if_true]);·exfalso;have e4:G f3 cs3=G s₁.f s₁.cs:=e3.symm;unfold G at e4;simp only[Goroutine.mk.injEq]at e4;obtain⟨rfl,rfl,_⟩:=e4;obtain⟨chain,hm⟩:=hp.1;obtain⟨B1,hO1⟩:=hB;exact hO1.st.head.noPanic.1 chain hm
 ·have e4:G f3 cs3=G s₁.f s₁.cs:=e3.symm;unfold G at e4;simp only[Goroutine.mk.injEq]at e4;obtain⟨rfl,rfl,_⟩:=e4;have e5:stepG E.P true (G s.f s.cs) (s.l.re t'' d)=.go (G s₂.f s₂.cs) s₂.l es2:=h2;have h3':stepG E.P true (G s.f s.cs) (s.l.re t'' d)=.go (G s₁.f s₁.cs) (s₁.l.re t'' (d+(s₁.l.drawn-d))) es3:=h3;rw[h3']at e5;have e6:s₂.f=s₁.f/\s₂.cs=s₁.cs/\s₂.l=s₁.l.re t'' s₁.l.drawn:=by
   simp only[GStep.go.injEq,G,Goroutine.mk.injEq,and_true]at e5;have e7:d+(s₁.l.drawn-d)=s₁.l.drawn:=by omega
   rw[e7]at e5;exact⟨e5.1.1.symm,e5.1.2.symm,e5.2.1.symm⟩
  rw[e6.1,e6.2.1,e6.2.2]at hr;obtain⟨B1,hO1⟩:=hB;obtain⟨d₁,hfin⟩:=Zi8 hG hF hS n t' d' (hO1.re t'' s₁.l.drawn) (fun i q=>by
   show t'' (s₁.l.drawn+i) q=t' (d'+i) q;have:¬s₁.l.drawn+i<s₁.l.drawn:=by omega
   simp only[t'',this,if_false];congr 1;omega) hr hst;exact⟨n,f₁,cs₁,_,hfin,hS.tape _ _ _ _ _ hst⟩
open Classical in theorem ZeL(hG:E.Fine)(hF:Strict E)(hS:Halts Stop) {s:St} (h:ZgZ E sh Stop s):LG E Stop s.f s.cs s.l:=by
 apply Classical.byContradiction;intro hL;have key:∀b:{s:St // Bad E sh Stop s},∃(t:Nat->Question->Nat) (d:Nat) (b₁:{s:St // Bad E sh Stop s}),(∃es,stepG E.P true (G b.1.f b.1.cs) (b.1.l.re t d)=.go (G b₁.1.f b₁.1.cs) b₁.1.l es)/\d<=b₁.1.l.drawn/\¬Zbx [ZD E.P] b.1.f b.1.cs:=by intro b;obtain⟨t,d,s₁,h1,h2,h3,h4,h5⟩:=ZnJ hG hF hS b.2;exact⟨t,d,⟨s₁,h1⟩,h2,h3,h5⟩
 obtain⟨T,key⟩:=Classical.axiomOfChoice key;obtain⟨D,key⟩:=Classical.axiomOfChoice key;obtain⟨N,key⟩:=Classical.axiomOfChoice key;have hgo:=fun b=>(key b).1;have hle:=fun b=>(key b).2.1;have hout:=fun b=>(key b).2.2;let a:Nat->{s:St // Bad E sh Stop s}:=fun k=>Nat.rec ⟨s,h,hL⟩ (fun _ b=>N b) k;have a1:∀k,a (k+1)=N (a k):=fun k=>rfl;let Dk:Nat->Nat:=fun k=>Nat.rec 0 (fun k x=>x+((a (k+1)).1.l.drawn-D (a k))) k;have d1:∀k,Dk (k+1)=Dk k+((a (k+1)).1.l.drawn-D (a k)):=fun k=>rfl;have dm:∀k m,Dk k<=Dk (k+m):=by intro k m;induction m with
  |zero=>exact ZwO _|succ m ih=>have:=d1 (k+m);have e:k+(m+1)=k+m+1:=rfl;rw[e];omega
 have uniq:∀j k k',Dk k<=j->j<Dk (k+1)->Dk k'<=j->j<Dk (k'+1)->k=k':=by
  intro j k k' h1 h2 h3 h4;rcases Nat.lt_trichotomy k k' with hlt|heq|hlt
  ·have:=dm (k+1) (k' - (k+1));have e:k+1+(k' - (k+1))=k':=by omega
   rw[e]at this;omega
  ·exact heq
  ·have:=dm (k'+1) (k-(k'+1));have e:k'+1+(k-(k'+1))=k:=by omega
   rw[e]at this;omega
 let τ:Nat->Question->Nat:=fun j q=>if hk:∃k,Dk k<=j/\j<Dk (k+1)then T (a hk.choose) (D (a hk.choose)+(j-Dk hk.choose)) q else 0;have hτ:∀k i q,i<(a (k+1)).1.l.drawn-D (a k)->τ (Dk k+i) q=T (a k) (D (a k)+i) q:=by intro k i q hi;have hk:∃k',Dk k'<=Dk k+i/\Dk k+i<Dk (k'+1):=⟨k,by omega,by have:=d1 k;omega⟩;have e:hk.choose=k:=uniq _ _ _ hk.choose_spec.1 hk.choose_spec.2 (by omega) (by have:=d1 k;omega);show (if hk:∃k',Dk k'<=Dk k+i/\Dk k+i<Dk (k'+1)then T (a hk.choose) (D (a hk.choose)+(Dk k+i-Dk hk.choose)) q else 0)=_;rw[dif_pos hk,e];congr 1;omega
 have run:∀k,runN E.P k (lone s.f s.cs (s.l.re τ 0))=.next (lone (a k).1.f (a k).1.cs ((a k).1.l.re τ (Dk k))):=by intro k;induction k with
  |zero=>rfl|succ k ih=>
   rw[runN_add,ih];obtain⟨es,hs⟩:=hgo (a k);obtain⟨⟨⟨B,hO⟩,_⟩,_⟩:=(a k).2;obtain⟨f3,cs3,e3,hp|⟨_,_,_,es3,h3⟩⟩:=ZfD hG hF (hO.re (T (a k)) (D (a k))) (hout (a k)) hs τ (Dk k) (fun i q hi=>by show T (a k) (D (a k)+i) q=τ (Dk k+i) q;have hi':D (a k)+i<(a (k+1)).1.l.drawn:=hi;exact(hτ k i q (by omega)).symm);·exfalso;unfold G at e3;simp only[Goroutine.mk.injEq]at e3;obtain⟨rfl,rfl,_⟩:=e3;obtain⟨chain,hm⟩:=hp.1;obtain⟨⟨⟨B1,hO1⟩,_⟩,_⟩:=(a (k+1)).2;exact hO1.st.head.noPanic.1 chain hm
   ·unfold G at e3;simp only[Goroutine.mk.injEq]at e3;obtain⟨rfl,rfl,_⟩:=e3;simp only[runN];have h3':stepG E.P true (G (a k).1.f (a k).1.cs) ((a k).1.l.re τ (Dk k))=.go (G (a (k+1)).1.f (a (k+1)).1.cs) ((a (k+1)).1.l.re τ (Dk k+((a (k+1)).1.l.drawn-D (a k)))) es3:=h3;rw[Zct h3']
 obtain⟨n,f₁,cs₁,l₁,hr,hst⟩:=h.2 τ 0;rw[run n]at hr;simp only[Stepped.next.injEq]at hr;obtain⟨e1,e2,e3⟩:=ZfE hr;rw[<-e1,<-e2,<-e3]at hst;exact(a n).2.2 (.stop _ _ _ (by have:=hS.tape _ _ _ (a n).1.l.tape (a n).1.l.drawn hst;exact this))
end
end Go.Twin
namespace Go.Twin
open Go.Conc
open Go.ConcN (sumTo upd sumTo_upd upd_ne upd_same)
variable {sh:Nat->Prop} {B:Blk}
structure Rel (E:Env)(sh:Nat->Prop)(bs':List Frame)(B:Blk)(f:Frame)(cs:List Frame)(l:World)(fa:Frame)(ca:List Frame)(w:World):Prop where
 st:ST E B [ZD E.P] bs' (f::cs) (fa::ca)
 wr:WR E ⟨sh,fun _=>False⟩ B l w
 low:∀b,sh b->b<l.heap.size
structure Went (sh:Nat->Prop)(B:Blk)(l w:World)(B':Blk)(l' w':World):Prop where
 le:B.le B'
 al:∀b b',B' b b'->B b b'∨(l.heap.size<=b/\w.heap.size<=b'/\b+w.heap.size=b'+l.heap.size)
 keep:∀b',b'<w.heap.size->(∀b,B b b'->sh b)->w'.heap[b']?=w.heap[b']?
 size:w.heap.size<=w'.heap.size/\l.heap.size<=l'.heap.size/\w'.heap.size+l.heap.size=l'.heap.size+w.heap.size
 same:w'.os=w.os/\w'.output=w.output
 lone:l'.os=l.os/\l'.output=l.output
 lkeep:∀b,b<l.heap.size->(∀b',B b b'->sh b)->l'.heap[b]?=l.heap[b]?
 cov:∀b,l.heap.size<=b->b<l'.heap.size->∃b',B' b b'
theorem Went.refl(l w:World):Went sh B l w B l w:=⟨Blk.le_refl _,fun _ _ x=>.inl x,fun _ _ _=>rfl,⟨ZwO _,ZwO _,ZwH _ _⟩,⟨rfl,rfl⟩,⟨rfl,rfl⟩,fun _ _ _=>rfl,fun b h1 h2=>absurd h2 (Zw2.2 h1)⟩
theorem Went.trans{B' B'':Blk} {l w l' w' l'' w'':World} (h:Went sh B l w B' l' w')(k:Went sh B' l' w' B'' l'' w''):Went sh B l w B'' l'' w'':=by
 obtain⟨s1,s2,s3⟩:=h.size;obtain⟨t1,t2,t3⟩:=k.size;refine⟨Blk.le_trans h.le k.le,fun b b' x=>?_,fun b' hb hS=>?_,⟨by omega,by omega,by omega⟩,⟨k.same.1.trans h.same.1,k.same.2.trans h.same.2⟩,⟨k.lone.1.trans h.lone.1,k.lone.2.trans h.lone.2⟩,fun b hb hS=>?_,fun b hb hb'=>?_⟩
 ·rcases k.al b b' x with y|⟨y1,y2,y3⟩;·exact h.al b b' y
  ·exact .inr ⟨by omega,by omega,by omega⟩
 ·rw[k.keep b' (by omega) fun b x=>?_,h.keep b' hb hS];rcases h.al b b' x with y|⟨y1,y2,y3⟩;·exact hS b y
  ·omega
 ·rw[k.lkeep b (by omega) fun b' x=>?_,h.lkeep b hb hS];rcases h.al b b' x with y|⟨y1,y2,y3⟩;·exact hS b' y
  ·omega
 ·by_cases hlt:b<l'.heap.size;·obtain⟨b',x⟩:=h.cov b hb hlt;exact⟨b',k.le _ _ x⟩
  ·exact k.cov b (by omega) hb'
section
variable {E:Env} {sh:Nat->Prop} {bs':List Frame} {Stop:Frame->List Frame->World->Prop}
theorem ZfF(hS:Halts Stop) {f:Frame} {cs:List Frame} {l:World} (h:LG E Stop f cs l):¬ZbR E.P f cs l:=by induction h with
 |stop f cs l h=>exact ZeK hS h|step f cs l hc hg hs ih=>
  intro hl;have hl':ZbR E.P f cs (l.re l.tape l.drawn):=hl;rcases lost_step hl' with⟨o,w,es,h1⟩|⟨f',cs',l',es,h1,h2⟩;·obtain⟨f',cs',l',es',h2⟩:=hg l.tape l.drawn;rw[h1]at h2;cases h2
  ·exact ih _ _ _ _ _ _ h1 h2
theorem Zg0{P:Program} {f:Frame} {cs:List Frame} {l:World} (hk:f.kind=.normal)(ho:Zbx [ZD P] f cs):(∃o w es,stepG P true (G f cs) l=.ended o w es)∨∃f' cs' l' es,stepG P true (G f cs) l=.go (G f' cs') l' es/\ZbR P f' cs' l':=by
 rcases ho with⟨h1,h2,rfl⟩|⟨h1,k,h2⟩;case inr=>refine .inl ?_;obtain⟨fn,tm,k',ds,md,kd,rd⟩:=f;dsimp only at h1 h2;subst h1 h2;exact⟨_,_,_,rfl⟩
 have e1:stepG P true (G f [ZD P]) l=unwind P true f [ZD P] none l:=by simp[stepG,G,h1]
 rw[e1];obtain⟨fn,tm,k,ds,md,kd,rd⟩:=f;dsimp only at h1 h2 hk;subst h1 h2 hk;have hret:∀v w,doReturn P true ⟨fn,tm,k,[],.returning,.normal,rd⟩ [ZD P] none v w=.go (G (ZD P) []) w:=fun v w=>rfl;unfold unwind;dsimp only;cases hpf:P.funcs[fn]? with|none=>exact .inr ⟨_,[],l,_,hret _ _,.inr ⟨rfl,.inl rfl⟩⟩|some F=>dsimp only;simp only[Sem.runT_eq];cases hr:(results F tm).run P l with|halt x l'=>cases x<;>exact .inl ⟨_,_,_,rfl⟩|ok v l'=>exact .inr ⟨_,[],l',_,by dsimp only;rw[hret];rfl,.inr ⟨rfl,.inl rfl⟩⟩
theorem ZnK(hG:E.Fine)(hS:Halts Stop) {B:Blk} {f fa:Frame} {cs ca:List Frame} {l w:World} (hR:Rel E sh bs' B f cs l fa ca w)(hc:f.mode=.run->Chk E f) (hgo:∀t d,∃f' cs' l' es,stepG E.P true (G f cs) (l.re t d)=.go (G f' cs') l' es)(hlg:∀t d f' cs' l' es,stepG E.P true (G f cs) (l.re t d)=.go (G f' cs') l' es->LG E Stop f' cs' l') (ma:Bool):∃t d f' cs' l' es fa' ca' w' es' B',stepG E.P true (G f cs) (l.re t d)=.go (G f' cs') l' es/\stepG E.P ma (G fa ca) w=.go (G fa' ca') w' es'/\Rel E sh bs' B' f' cs' l' fa' ca' w'/\Went sh B l w B' l' w'/\w'.tape=w.tape/\w.drawn<=w'.drawn/\∀e∈es',Zbu ⟨sh,fun _=>True⟩ B' e:=by
 let t:Nat->Question->Nat:=fun j q=>w.tape (w.drawn+j) q;obtain⟨f',cs',l',es,hst⟩:=hgo t 0;have hL:=hlg _ _ _ _ _ _ hst;have ho:¬Zbx [ZD E.P] f cs:=by
  intro ho;rcases Zg0 (l:=l.re t 0) hR.st.head.kind.1 ho with⟨o,x,es,h1⟩|⟨f2,cs2,l2,es2,h1,h2⟩;·rw[h1]at hst;cases hst
  ·rw[h1]at hst;simp only[GStep.go.injEq,G,Goroutine.mk.injEq,and_true]at hst;obtain⟨⟨rfl,rfl⟩,rfl,_⟩:=hst;exact ZfF hS hL h2
 have hw:WR E ⟨sh,fun _=>True⟩ B (l.re t 0) w:=hR.wr.retape rfl rfl rfl fun i q _=>by show w.tape (w.drawn+(0+i)) q=w.tape (w.drawn+i) q;rw[Zw9]
 have:=ZeG hG hR.st hw hR.low true ma hc (ZeH hR.st ho) (.inl fun _=>trivial);rw[hst]at this;rcases this with⟨f2,cs2,h1,hp⟩|⟨f2,cs2,fa',ca',w',es',B',new,h1,h2,h3,h4,h5⟩;·exfalso;simp only[G,Goroutine.mk.injEq,and_true]at h1;obtain⟨rfl,rfl⟩:=h1;exact ZfF hS hL (.inl hp)
 ·simp only[G,Goroutine.mk.injEq,and_true]at h1;obtain⟨rfl,rfl⟩:=h1;exact⟨t,0,f',cs',l',es,fa',ca',w',es',B',hst,h2,⟨h4,h3.wr.retape rfl rfl rfl fun _ _ h=>h.elim,fun b hb=>ZwS (hR.low b hb) h3.size.2.1⟩,⟨h3.le,h3.al,h3.keep,h3.size,⟨h3.same.1,h3.same.2.1⟩,⟨h3.lone.1,h3.lone.2.1⟩,h3.lkeep,h3.cov⟩,h3.same.2.2.1,h3.same.2.2.2,fun e he=>h3.ev e (h5 e he)⟩
def Fin(P:Program)(Post:Value->World->Prop)(gs:Array Goroutine)(w:World)(sl:Option (Nat×Nat))(t:Trace):Prop:=∃N last o w' t',runNT P (N+1) (crowd gs w sl) t=(.ended o w',t')/\runN P N (crowd gs w sl)=.next last/\step P last=.ended o w'/\Good P Post last o w' t'
theorem ZcP{P:Program} {Post:Value->World->Prop} {gs gs':Array Goroutine} {w w':World} {sl sl':Option (Nat×Nat)} {t:Trace} {ops:Array MemOp} (h:stepT P (crowd gs w sl)=(.next (crowd gs' w' sl'),ops))(hf:Fin P Post gs' w' sl' (t++ops)):Fin P Post gs w sl t:=by
 obtain⟨N,last,o,w1,t1,h1,h2,h3,h4⟩:=hf;refine⟨N+1,last,o,w1,t1,?_,?_,h3,h4⟩;·rw[runNT_succ_next h];exact h1
 ·simp only[runN,step,h];exact h2
theorem Zg1{B:Blk} {w l:World} {S:Side} (hw:WR E S B l w) {S':Side} {e:Event} (he:Zbu S' B e):EvL (fun _=>False) w.heap.size e:=by
 obtain⟨loc,wr,sy⟩:=e;refine⟨fun x _ h=>h.elim,?_,?_,?_⟩;·rintro rfl;exact he
 ·rintro rfl;exact he
 ·cases loc with
  |cell a=>obtain⟨h1,b,h2,_⟩:=he;dsimp only at h1;subst h1;exact(hw.dom _ _ h2).2|obj r=>obtain⟨h1,b,h2,_⟩:=he;dsimp only at h1;subst h1;cases wr<;>exact(hw.dom _ _ h2).2|mark m=>cases m<;>first|exact trivial|exact he.elim
  |output=>exact he.elim|goroutines=>exact he.elim
end
section
variable {E:Env} {sh:Nat->Prop} {bs':List Frame} {Stop:Frame->List Frame->World->Prop} {Post:Value->World->Prop}
theorem Rel.at_{B:Blk} {f fa:Frame} {cs ca:List Frame} {l w:World} (h:Rel E sh bs' B f cs l fa ca w)(d:Nat):Rel E sh bs' B f cs l fa ca (w.at d):=⟨h.st,h.wr.retape rfl rfl rfl fun _ _ x=>x.elim,h.low⟩
theorem Went.at_{B B':Blk} {l w l' w':World} {d:Nat} (h:Went sh B l (w.at d) B' l' w'):Went sh B l w B' l' w':=⟨h.le,h.al,h.keep,h.size,h.same,h.lone,h.lkeep,h.cov⟩
theorem Zi9{P:Program} {gs:Array Goroutine} {a a':Goroutine} {w':World} {t:Trace} {q:Nat->Nat} (h0:gs[0]?=some a)(hL:Leavers P t gs q)(fn:FuncId)(pos:String)(es:Array Event):Leavers P (t++MemOp.ofEvents 0 fn pos es) ((gs.map (woken P a a' w')).setIfInBounds 0 a') q:=by
 refine⟨fun j x hj hx=>?_,fun j hj=>?_⟩
 ·have hne:0≠j:=by omega
  rw[Zuw hne,Zup]at hx;obtain⟨y,hy,rfl⟩:=Zxf.1 hx;have hq:=hL.old j y hj hy;rw[woken_quitsD hq,Deaf_other t (by omega) _ (fun op hop=>by obtain⟨e,_,rfl⟩:=Go.Conc.mem_ofEvents hop;rfl)];exact hq
 ·have hlt:0<gs.size:=(Zuo.1 h0).1;rw[Deaf_other t (g':=0) (by simp at hj;omega) _ (fun op hop=>by obtain⟨e,_,rfl⟩:=Go.Conc.mem_ofEvents hop;rfl)];exact hL.above j (by simpa using hj)
theorem Zja(hG:E.Fine)(hS:Halts Stop) {f:Frame} {cs:List Frame} {l:World} (hl:LG E Stop f cs l):∀{B:Blk} {fa:Frame} {ca:List Frame} {w:World} {gs:Array Goroutine} {sl:Option (Nat×Nat)} {t:Trace} {q:Nat->Nat},gs[0]?=some (G fa ca)->Leavers E.P t gs q->Past (fun _=>False) w.heap.size t->Rel E sh bs' B f cs l fa ca w->(∀{B₁:Blk} {f₁:Frame} {cs₁:List Frame} {l₁:World} {fa₁:Frame} {ca₁:List Frame} {w₁:World} {gs₁:Array Goroutine} {sl₁:Option (Nat×Nat)} {t₁:Trace} {q₁:Nat->Nat},Stop f₁ cs₁ l₁->gs₁[0]?=some (G fa₁ ca₁)->gs₁.size=gs.size->Leavers E.P t₁ gs₁ q₁->Past (fun _=>False) w₁.heap.size t₁->Rel E sh bs' B₁ f₁ cs₁ l₁ fa₁ ca₁ w₁->Went sh B l w B₁ l₁ w₁->Fin E.P Post gs₁ w₁ sl₁ t₁)->Fin E.P Post gs w sl t:=by induction hl with
 |stop f cs l h=>intro B fa ca w gs sl t q h0 hL hP hR hK;exact hK h h0 rfl hL hP hR (Went.refl _ _)|step f cs l hc hg hs ih=>
  have key:∀(n:Nat) {B:Blk} {fa:Frame} {ca:List Frame} {w:World} {gs:Array Goroutine} {sl:Option (Nat×Nat)} {t:Trace} {q:Nat->Nat},sumTo gs.size q=n->gs[0]?=some (G fa ca)->Leavers E.P t gs q->Past (fun _=>False) w.heap.size t->Rel E sh bs' B f cs l fa ca w->(∀{B₁:Blk} {f₁:Frame} {cs₁:List Frame} {l₁:World} {fa₁:Frame} {ca₁:List Frame} {w₁:World} {gs₁:Array Goroutine} {sl₁:Option (Nat×Nat)} {t₁:Trace} {q₁:Nat->Nat},Stop f₁ cs₁ l₁->gs₁[0]?=some (G fa₁ ca₁)->gs₁.size=gs.size->Leavers E.P t₁ gs₁ q₁->Past (fun _=>False) w₁.heap.size t₁->Rel E sh bs' B₁ f₁ cs₁ l₁ fa₁ ca₁ w₁->Went sh B l w B₁ l₁ w₁->Fin E.P Post gs₁ w₁ sl₁ t₁)->Fin E.P Post gs w sl t:=by intro n;induction n using Nat.strongRecOn with|ind n ihn=>
    intro B fa ca w gs sl t q hn h0 hL hP hR hK;have haw:∀g∈gs,awake g:=by
     intro g hg;obtain⟨i,hi,rfl⟩:=Array.mem_iff_getElem.1 hg;rcases Nat.eq_zero_or_pos i with rfl|hpos
     ·have:gs[0]=G fa ca:=by simpa [Zum hi] using h0
      rw[this];exact awake_of (.inl rfl)
     ·exact awake_of ((hL.old i _ hpos (Zum hi)).status.elim .inl fun x=>.inr (.inr x))
    obtain⟨i,g,d,sl',hi,hgr,hst⟩:=crowd_pick (P:=E.P) (w:=w) (sl:=sl) haw ⟨0,_,h0,rfl⟩;rcases Nat.eq_zero_or_pos i with rfl|hpos
    ·obtain rfl:g=G fa ca:=by rw[h0]at hi;exact(Zxh hi).symm
     obtain⟨tt,dd,f',cs',l',es,fa',ca',w',es',B',g1,g2,g3,g4,g5,g6,g7⟩:=ZnK hG hS (hR.at_ d) hc hg hs true;have hrunT:=runT_crowd_go (P:=E.P) (sl:=sl') (i:=0) hi (show stepG E.P (0==0) (G fa ca) (w.at d)=_ from g2);have hlt:0<gs.size:=(Zuo.1 h0).1;refine ZcP (hst.trans hrunT) (ih _ _ _ _ _ _ g1 (by simp[hlt]) (Zi9 h0 hL _ _ _) ((hP.mono g4.size.1).own fun e he=>Zg1 g3.wr (g7 e he)) g3 ?_);intro B₁ f₁ cs₁ l₁ fa₁ ca₁ w₁ gs₁ sl₁ t₁ q₁ k1 k2 k3 k4 k5 k6 k7;exact hK k1 k2 (k3.trans (by simp)) k4 k5 k6 (Went.trans (l':=l') (w':=w') g4.at_ k7)
    ·have hq:=hL.old i g hpos hi;have hi0:(i==0)=false:=by simp;omega
     have hlt:i<gs.size:=(Zuo.1 hi).1;cases hqi:q i with
     |zero=>rw[hqi]at hq;rw[hq.1]at hgr;cases hgr|succ k=>
      rw[hqi]at hq;rcases hq with⟨hf,_⟩|⟨_,g',es,hm,hstp,hq'⟩;·rw[hf]at hgr;cases hgr
      have hrunT:=runT_crowd_go (P:=E.P) (sl:=sl') (i:=i) hi (by rw[hi0];exact hstp (w.at d));have hsz:((gs.map (woken E.P g g' (w.at d))).setIfInBounds i g').size=gs.size:=by simp
      have hsum:sumTo gs.size (upd q i k)+(k+1)=sumTo gs.size q+k:=by have:=sumTo_upd q k id hlt;simpa [hqi] using this
      refine ZcP (hst.trans hrunT) (ihn (sumTo gs.size (upd q i k)) (by omega) (q:=upd q i k) (by rw[hsz]) ?_ ⟨fun j x hj hx=>?_,fun j hj=>?_⟩ (hP.mute (by omega) hm) (hR.at_ d) ?_)
      ·have hne:i≠0:=by omega
       rw[Zuw hne,Zup,h0];simp[woken_run (show (G fa ca).status=.running from rfl)]
      ·by_cases hji:i=j;·subst hji;rw[Zux (by simpa using hlt)]at hx;obtain rfl:=Zxh hx;rw[upd_same,Deaf_own];exact hq'
       ·rw[Zuw hji,Zup]at hx;obtain⟨y,hy,rfl⟩:=Zxf.1 hx;have hqj:=hL.old j y hj hy;rw[woken_quitsD hqj,upd_ne q k (Ne.symm hji),Deaf_other t hji _ (fun op hop=>by obtain⟨e,_,rfl⟩:=Go.Conc.mem_ofEvents hop;rfl)];exact hqj
      ·rw[Deaf_other t (g':=i) (by simp at hj;omega) _ (fun op hop=>by obtain⟨e,_,rfl⟩:=Go.Conc.mem_ofEvents hop;rfl)];exact hL.above j (by simpa using hj)
      ·intro B₁ f₁ cs₁ l₁ fa₁ ca₁ w₁ gs₁ sl₁ t₁ q₁ k1 k2 k3 k4 k5 k6 k7;exact hK k1 k2 (k3.trans hsz) k4 k5 k6 k7.at_
  intro B fa ca w gs sl t q h0 hL hP hR hK;exact key _ rfl h0 hL hP hR hK
end
end Go.Twin
namespace Go.Twin
open Go.Conc (G)
structure Sub (E E':Env):Prop where
 P:E'.P=E.P
 glob:E'.glob=E.glob
 sh:E'.sh=E.sh
 nn:E'.nn=E.nn
 dark:E'.dark=E.dark
 junk:E.junk=true->E'.junk=true
 good:∀f,E.good f=true->E'.good f=true
 z0:E.z0=true->E'.z0=true
section
variable {E E':Env}
theorem Sub.flat(h:Sub E E'):∀(n:Nat)(t:TypeId),E'.flat n t=E.flat n t|0,_=>rfl|n+1,t=>by unfold Env.flat;rw[h.P];simp only[Sub.flat h n]
theorem Sub.operand(h:Sub E E'):∀(o:Operand),E.operand o=true->E'.operand o=true|.tmp _,_=>rfl|.const v,x=>x|.global g,x=>by show E'.glob g=true;rw[h.glob];exact x|.func f,x=>h.good f x
theorem Sub.zero(h:Sub E E')(t:TypeId):E'.zero t=E.zero t:=by unfold Env.zero;rw[h.P]
theorem Sub.zeroElem(h:Sub E E')(t:TypeId):E'.zeroElem t=E.zeroElem t:=by unfold Env.zeroElem;simp only[h.P,h.zero]
theorem Sub.op(h:Sub E E')(o:Op)(x:E.op o=true):E'.op o=true:=by
 have hdk:E'.darkOp o=E.darkOp o:=by unfold Env.darkOp;simp only[h.P,h.dark]
 unfold Env.op at x |-;rw[hdk];rw[ZuV]at x |-;refine x.imp id fun x=>?_;unfold Env.op0 at x |-;rw[ZuM]at x |-;refine⟨?_,?_⟩;·have hx:=x.1;rw[Zub]at hx |-;exact fun o ho=>h.operand o (hx o ho)
 ·have hx:=x.2;cases o with
  |makeFunc fn a b=>cases fn with
   |func f=>exact h.good f hx|_=>exact hx
  |call c=>dsimp only at hx |-;unfold Env.call at hx |-;simp only[h.P,h.zeroElem,h.sh];exact hx|binOp op t a b c=>simp only[h.flat,h.sh]at hx |-;exact hx|convert s d a=>unfold Env.conv at hx |-;simp only[h.P]at hx |-;exact hx|fieldAddr t a i=>unfold Env.sized at hx |-;simp only[h.P]at hx |-;exact hx|range t a=>simp only[h.P]at hx |-;exact hx|nilCheck a=>simp only[h.nn]at hx |-;exact hx|alloc t=>simp only[h.zero]at hx |-;exact hx|build t ps=>simp only[h.zero]at hx |-;exact hx|buildSlice t n ps=>simp only[h.zeroElem]at hx |-;exact hx|makeSlice t a b=>simp only[h.zeroElem]at hx |-;exact hx|typeAssert x t a ok=>simp only[h.zero]at hx |-;exact hx|_=>exact hx
theorem Sub.code(h:Sub E E'):∀(c:Code),E.code c=true->E'.code c=true|.skip,_|.label _,_|.ret,_|.exit _,_=>rfl|.refuse why,x=>x|.goto _,x=>x|.region _ ops _,x=>by simp only[Env.code,Zub]at x |-;exact fun o ho=>h.op o.op (x o ho)|.seq a b,x=>by simp only[Env.code,ZuM]at x |-;exact⟨h.code a x.1,h.code b x.2⟩|.cond c a b,x=>by simp only[Env.code,ZuM]at x |-;exact⟨⟨h.operand c x.1.1,h.code a x.1.2⟩,h.code b x.2⟩|.block _ c,x=>by simp only[Env.code]at x |-;exact h.code c x|.loop c,x=>by simp only[Env.code]at x |-;exact h.code c x|.scope c,x=>by simp only[Env.code]at x |-;exact h.code c x|.rangeFunc f _ a b,x=>by simp only[Env.code,ZuM]at x |-;exact⟨⟨h.operand f x.1.1,h.code a x.1.2⟩,h.code b x.2⟩
theorem Sub.chk(h:Sub E E') {f:Frame} (x:Chk E f):Chk E' f:=by
 unfold Chk at x |-;split at x;·exact fun o ho=>h.op o.op (x o ho)
 ·exact h.operand _ x
 ·exact⟨h.operand _ x.1,h.code _ x.2.1,h.code _ x.2.2⟩
 ·exact x
 ·exact x
 ·trivial
variable {B:Blk}
theorem Sub.fn(h:Sub E E') {f f':Fn} (x:FnR E B f f'):FnR E' B f f':=by cases x with|func f hf=>exact .func f (h.good f hf)|yield l l' hl=>exact .yield l l' hl
theorem Sub.vr(h:Sub E E') {v v':Value} (x:VR E B v v'):VR E' B v v':=by induction x with|bool b=>exact .bool b|int k n=>exact .int k n|string s=>exact .string s|nilPtr=>exact .nilPtr|ptr a a' ha=>exact .ptr a a' ha|nilSlice l c=>exact .nilSlice l c|slice a a' l c ha=>exact .slice a a' l c ha|slice0 a hz=>exact .slice0 a (h.z0 hz)|func fn fn' xs xs' ys ys' hf hx _ hy _ ih1 ih2=>exact .func fn fn' xs xs' ys ys' (h.fn hf) hx ih1 hy ih2|nilFunc=>exact .nilFunc|iface t v v' _ ih=>exact .iface t v v' ih|nilIface=>exact .nilIface|chan r=>exact .chan r|junk v hf hv=>exact .junk v (h.junk hf) hv|agg xs xs' hx _ ih=>exact .agg xs xs' hx ih|tuple xs xs' hx _ ih=>exact .tuple xs xs' hx ih
theorem Sub.ar(h:Sub E E') {xs xs':Array Value} (x:AR E B xs xs'):AR E' B xs xs':=⟨x.size,fun i v v' a b=>h.vr (x.at_ i v v' a b)⟩
theorem Sub.or(h:Sub E E') {o o':Obj} (x:OR E B o o'):OR E' B o o':=by cases x with|cells c c' T f hc=>exact .cells c c' T f (h.ar hc)|deferred=>exact .deferred|taken=>exact .taken|loop s p f t t' ps as body d d' hp ht ha hb hd=>exact .loop s p f t t' ps as body d d' (fun c hc=>h.code c (hp c hc)) (h.ar ht) (h.code _ ha) (h.code _ hb) hd|iter s p=>exact .iter s p|number a a' lost ha=>exact .number a a' lost ha
theorem Sub.wr(h:Sub E E') {S:Side} {l w:World} (x:WR E S B l w):WR E' S B l w:=⟨x.fn,x.inj,x.dom,fun b b' hb hs=>let ⟨o,o',h1,h2,h3⟩:=x.obj b b' hb hs;⟨o,o',h1,h2,h.or h3⟩,fun b b' hb hs=>let ⟨c,c',T,f,h1,h2,h3⟩:=x.shr b b' hb hs;⟨c,c',T,f,h1,h2,h.ar h3⟩,x.str,fun g hg=>x.glob g (by rw[<-h.glob];exact hg),fun b b' hb=>by rw[h.P];exact x.low b b' hb,by rw[h.P];exact x.gsz,fun hs=>x.sh (by rw[<-h.sh];exact hs),fun g hg=>x.dark g (by rw[<-h.dark];exact hg)⟩
variable {Stop Stop':Frame->List Frame->World->Prop}
theorem LG.sub(h:Sub E E') {f:Frame} {cs:List Frame} {l:World} (x:LG E Stop f cs l):LG E' Stop f cs l:=by induction x with|stop f cs l h=>exact .stop f cs l h|step f cs l hc hg hs ih=>exact .step f cs l (fun hm=>h.chk (hc hm)) (by rw[h.P];exact hg) (by rw[h.P];exact ih)
theorem LG.trans{f:Frame} {cs:List Frame} {l:World} (x:LG E Stop f cs l)(k:∀f cs l,Stop f cs l->LG E Stop' f cs l):LG E Stop' f cs l:=by induction x with|stop f cs l h=>exact k f cs l h|step f cs l hc hg hs ih=>exact .step f cs l hc hg ih
theorem LG.one{f f':Frame} {cs cs':List Frame} {l:World} {W:(Nat->Question->Nat)->Nat->World} {es:(Nat->Question->Nat)->Nat->Array Event} (hc:f.mode=.run->Chk E f)(h:∀t d,stepG E.P true (G f cs) (l.re t d)=.go (G f' cs') (W t d) (es t d)) (k:∀t d,LG E Stop f' cs' (W t d)):LG E Stop f cs l:=by refine .step f cs l hc (fun t d=>⟨_,_,_,_,h t d⟩) fun t d g cs1 l1 es1 hs=>?_;rw[h t d]at hs;simp only[GStep.go.injEq,G,Goroutine.mk.injEq,and_true]at hs;obtain⟨⟨rfl,rfl⟩,rfl,_⟩:=hs;exact k t d
end
end Go.Twin
