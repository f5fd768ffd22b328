import Derived.Laws.Sem
import Derived.StepT
set_option linter.all false
instance Va:Coe Int Go.Value:=⟨Go.Value.int .i64⟩
instance Vb:Coe Bool Go.Value:=⟨Go.Value.bool⟩
instance Vc:Coe Nat Go.Value:=⟨fun k=>Go.Value.int .i64 k⟩
instance Vd:Coe Nat Go.Addr:=⟨fun b=>⟨b,0,none⟩⟩
def Ql{P:Prop}(h:P:=by simp[Op.operands]):P:=h
def Qk{P:Prop}(h:P:=by simp;omega):P:=h
def Qe{P:Prop}(h:P:=by rfl):P:=h
def Qd{P:Prop}(h:P:=by simp):P:=h
def Qc{P:Prop}(h:P:=by decide):P:=h
def Qa{P:Prop}(h:P:=by omega):P:=h
set_option maxRecDepth 100000
set_option maxHeartbeats 16000000
namespace Go
def q':=@if_neg
def Zde:=@if_pos
def ZyI:=@if_false
def ZyJ:=@if_true
def aD:=@Sem.run_bind
def h6:=@decide_eq_true_eq
def aI:=@Result.andThen_ok
def aP:=@Sem.run_pure
def cZ:=@beq_iff_eq
def xA:=@Array.ext
def mY:=@Nat.le_zero
def pV:=@Array.getElem?_replicate
def HE:=@Bool.and_self
def pW:=@Array.mapM_eq_mapM_toList
def pX:=@List.forIn_nil
def pY:=@List.forIn_cons
def yU:=@Array.getElem?_append
def yV:=@Array.eq_empty_of_size_eq_zero
def IA:=@Std.Legacy.Range.forIn_eq_forIn_range'
def dS:=@Array.all_eq_true_iff_forall_mem
def Q':=@Array.append_empty
def dD:=@Array.ext_getElem?
def mL:=@Array.forIn_toList
def fG:=@Array.getD_eq_getD_getElem?
def e3:=@Array.getElem?_eq_getElem
def bO:=@Array.getElem?_eq_some_iff
def bD:=@Array.getElem?_map
def B0:=@Array.getElem?_modify
def eS:=@Array.getElem?_push
def dP:=@Array.getElem?_push_lt
def bF:=@Array.getElem?_setIfInBounds
def cA:=@Array.getElem?_setIfInBounds_ne
def nY:=@Array.getElem?_toList
def mZ:=@Array.mem_append
def cP:=@Array.mem_of_getElem?
def GS:=@Array.push_eq_append
def aY:=@Bool.and_eq_true
def eN:=@Bool.eq_iff_iff
def nK:=@Bool.false_eq_true
def fA:=@Bool.or_eq_true
def eT:=@List.cons.injEq
def iG:=@List.mapM_cons
def iH:=@List.mapM_nil
def M1:=@List.map_cons
def iI:=@Nat.add_assoc
def aM:=@Nat.add_comm
def w7:=@Nat.add_zero
def U0:=@Nat.le_of_eq
def sW:=@Nat.le_refl
def h9:=@Nat.le_trans
def X3:=@Nat.lt_irrefl
def h8:=@Nat.lt_of_lt_of_le
def hQ:=@Nat.not_lt
def m':=@Nat.zero_add
def gD:=@Nat.zero_mul
def B5:=@Option.bind_some
def e':=@Option.map_eq_some_iff
def R':=@Option.some.inj
abbrev zu:=undef
end Go
namespace Go.Twin
abbrev _root_.bJ:=Array Value
variable {v v':Value} {xs xs' ys ys':bJ} {i:Nat}
structure Env where
 P:Program
 good:FuncId->Bool
 glob:Nat->Bool
 sh:Bool
 free:Bool
 junk:Bool
 nn:Bool
 dfr:FuncId->Bool
 dark:Nat->Bool
 tab:Code
 z0:Bool:=false
abbrev Blk:=Nat->Nat->Prop
def Blk.le(B a:Blk):Prop:=∀b b',B b b'->a b b'
def Blk.le_refl(B:Blk):B.le B:=fun _ _ h=>h
def Blk.le_trans{B C D:Blk} (h:B.le C)(k:C.le D):B.le D:=fun _ _ x=>k _ _ (h _ _ x)
def bare:Value->Bool|.agg _|.iface ..|.nilIface|.bool _|.int ..|.string _=>false|_=>true
def NC(h:bare v=true):v.cells=#[v]:=by cases v<;>first|rfl|cases h
inductive FnR (G:Env)(B:Blk):Fn->Fn->Prop|func (f:FuncId) (h:G.good f=true):FnR G B (.func f) (.func f)|yield (l l':Nat) (h:B l l'):FnR G B (.yield l) (.yield l')
abbrev _root_.hB:=Option Nat
inductive AddrR (B:Blk):Addr->Addr->Prop|mk (b b' o:Nat) (s:hB) (h:B b b'):AddrR B ⟨b,o,s⟩ ⟨b',o,s⟩
abbrev _root_.aN:=TypeId
inductive VR (G:Env)(B:Blk):Value->Value->Prop|bool (b:Bool):VR G B (.bool b) (.bool b)|int (k:IntKind) (n:Int):VR G B (.int k n) (.int k n)|string (s:ByteArray):VR G B (.string s) (.string s)|nilPtr:VR G B (.pointer none) (.pointer none)|ptr (a a':Addr) (h:AddrR B a a'):VR G B (.pointer (some a)) (.pointer (some a'))|nilSlice (l c:Nat):VR G B (.slice none l c) (.slice none l c)|slice (a a':Addr) (l c:Nat) (h:AddrR B a a'):VR G B (.slice (some a) l c) (.slice (some a') l c)|slice0 (a:Addr) (hz:G.z0=true):VR G B (.slice (some a) 0 0) (.slice (some a) 0 0)|func (fn fn':Fn)(xs xs' ys ys':bJ)(h:FnR G B fn fn')(hx:xs.size=xs'.size)(hxs:∀(i:Nat)(v v':Value),xs[i]?=some v->xs'[i]?=some v'->VR G B v v')(hy:ys.size=ys'.size) (hys:∀(i:Nat) (v v':Value),ys[i]?=some v->ys'[i]?=some v'->VR G B v v'):VR G B (.func fn xs ys) (.func fn' xs' ys')|nilFunc:VR G B .nilFunc .nilFunc|iface (t:aN) (v v':Value) (h:VR G B v v'):VR G B (.iface t v) (.iface t v')|nilIface:VR G B .nilIface .nilIface|chan (r:hB):VR G B (.chan r) (.chan r)|junk (v:Value)(hf:G.junk=true)(hv:bare v=true):VR G B (.tuple #[]) v|agg (xs xs':bJ) (hx:xs.size=xs'.size) (hxs:∀(i:Nat) (v v':Value),xs[i]?=some v->xs'[i]?=some v'->VR G B v v'):VR G B (.agg xs) (.agg xs')|tuple (xs xs':bJ) (hx:xs.size=xs'.size) (hxs:∀(i:Nat) (v v':Value),xs[i]?=some v->xs'[i]?=some v'->VR G B v v'):VR G B (.tuple xs) (.tuple xs')
structure SubG (S E1 E2:Env):Prop where
 s:S.z0=false
 e:E1.z0=false
 good:∀f,S.good f=true->E2.good f=true
variable {G:Env} {B B':Blk}
def FnR.mono(h:B.le B') {f a:Fn} (x:FnR G B f a):FnR G B' f a:=by cases x with|func f hf=>exact .func f hf|yield l l' hl=>exact .yield l l' (h _ _ hl)
def AddrR.mono(h:B.le B') {a a':Addr} (x:AddrR B a a'):AddrR B' a a':=by cases x with|mk b b' o s hb=>exact .mk b b' o s (h _ _ hb)
def VR.mono(h:B.le B')(x:VR G B v v'):VR G B' v v':=by induction x with|bool b=>exact .bool b|int k n=>exact .int k n|string s=>exact .string s|nilPtr=>exact .nilPtr|ptr a a' ha=>exact .ptr a a' (ha.mono h)|nilSlice l c=>exact .nilSlice l c|slice a a' l c ha=>exact .slice a a' l c (ha.mono h)|slice0 a hz=>exact .slice0 a hz|func fn fn' xs xs' ys ys' hf hx _ hy _ ih1 ih2=>exact .func fn fn' xs xs' ys ys' (hf.mono h) hx ih1 hy ih2|nilFunc=>exact .nilFunc|iface t v v' _ ih=>exact .iface t v v' ih|nilIface=>exact .nilIface|chan r=>exact .chan r|junk v hf hv=>exact .junk v hf hv|agg xs xs' hx _ ih=>exact .agg xs xs' hx ih|tuple xs xs' hx _ ih=>exact .tuple xs xs' hx ih
structure AR (G:Env)(B:Blk)(xs xs':bJ):Prop where
 size:xs.size=xs'.size
 at_:∀(i:Nat)(v v':Value),xs[i]?=some v->xs'[i]?=some v'->VR G B v v'
def AR.mono(h:B.le B')(x:AR G B xs xs'):AR G B' xs xs':=⟨x.size,fun i v v' a b=>(x.at_ i v v' a b).mono h⟩
def AR.get(x:AR G B xs xs')(h:xs[i]?=some v):∃v',xs'[i]?=some v'/\VR G B v v':=by have b:i<xs.size:=(bO.1 h).1;have a:i<xs'.size:=x.size▸b;exact⟨xs'[i],e3 a,x.at_ i _ _ h (e3 a)⟩
def AR.none(x:AR G B xs xs')(h:xs[i]?=.none):xs'[i]?=.none:=by rw[Array.getElem?_eq_none_iff]at h |-;rw[<-x.size];exact h
def AR.empty:AR G B #[] #[]:=⟨rfl,fun i v v' h=>by simp at h⟩
def AR.getD(x:AR G B xs xs') (i:Nat) {d a:Value} (c:VR G B d a):VR G B (xs.getD i d) (xs'.getD i a):=by rw[fG,fG];cases h:xs[i]? with|none=>rw[x.none h];exact c|some v=>obtain⟨v',b,e⟩:=x.get h;rw[b];exact e
def AR.push(x:AR G B xs xs') (h:VR G B v v'):AR G B (xs.push v) (xs'.push v'):=by
 refine⟨by simp[x.size],fun i u d b a=>?_⟩;rw[eS]at b a;rw[<-x.size]at a;split at b;·rename_i c;rw[Zde c]at a;cases b;cases a;exact h
 .rename_i c;rw[q' c]at a;exact x.at_ i u d b a
def AR.append(x:AR G B xs xs') (y:AR G B ys ys'):AR G B (xs++ys) (xs'++ys'):=by
 refine⟨by simp[x.size,y.size],fun i u d b a=>?_⟩;rw[yU]at b a;rw[<-x.size]at a;split at b;·rename_i c;rw[Zde c]at a;exact x.at_ i u d b a
 .rename_i c;rw[q' c]at a;exact y.at_ _ u d b a
def AR.set(x:AR G B xs xs') (k:Nat) (h:VR G B v v'):AR G B (xs.setIfInBounds k v) (xs'.setIfInBounds k v'):=by
 refine⟨by simp[x.size],fun i u e b a=>?_⟩;rw[bF]at b a;rw[<-x.size]at a;split at b
 .rename_i c;rw[Zde c]at a;split at b;·rename_i d;rw[Zde d]at a;cases b;cases a;exact h
  .cases b
 .rename_i c;rw[q' c]at a;exact x.at_ i u e b a
def AR.extract(x:AR G B xs xs') (a b:Nat):AR G B (xs.extract a b) (xs'.extract a b):=by
 refine⟨by simp[x.size],fun i u f d c=>?_⟩;rw[Array.getElem?_extract]at d c;rw[<-x.size]at c;split at d;·rename_i e;rw[Zde e]at c;exact x.at_ _ u f d c
 .cases d
def AR.replicate(n:Nat) (h:VR G B v v):AR G B (Array.replicate n v) (Array.replicate n v):=by
 refine⟨rfl,fun i u d b a=>?_⟩;rw[pV]at b a;split at b;·rename_i c;rw[Zde c]at a;cases b;cases a;exact h
 .cases b
def AR.one(h:VR G B v v'):AR G B #[v] #[v']:=AR.push AR.empty h
def Zf(x:AR G B xs xs'):VR G B (.agg xs) (.agg xs'):=.agg _ _ x.size x.at_
def Zh(x:AR G B xs xs'):VR G B (.tuple xs) (.tuple xs'):=.tuple _ _ x.size x.at_
def Zl{fn f:Fn} (h:FnR G B fn f) (x:AR G B xs xs') (y:AR G B ys ys'):VR G B (.func fn xs ys) (.func f xs' ys'):=.func _ _ _ _ _ _ h x.size x.at_ y.size y.at_
def VR.cells(h:VR G B v v'):AR G B v.cells v'.cells:=by
 cases h;case junk hf hv=>rw[NC hv];exact AR.one (.junk _ hf hv)
 case slice0 a hz=>exact AR.one (.slice0 a hz)
 case agg hx hxs=>exact⟨hx,hxs⟩
 all_goals exact AR.one (by constructor<;>assumption)
def VR.bare(h:VR G B v v'):bare v=bare v':=by cases h<;>first|rfl|(rename_i a;exact a.symm)
def undefR:VR G B undef undef:=Zh AR.empty
def bG:Nat->Value->Bool|0,_=>false|n+1,v=>match v with|.bool _|.int ..|.string _|.pointer none|.slice none ..|.nilFunc|.nilIface|.chan none=>true|.iface _ v=>bG n v|.agg xs|.tuple xs=>xs.all (bG n)|_=>false
def VR.closed:∀(n:Nat)(v:Value),bG n v=true->VR G B v v
 |0,_,h=>by simp[bG]at h|n+1,v,h=>by
  unfold bG at h;split at h;·exact .bool _
  .exact .int _ _
  .exact .string _
  .exact .nilPtr
  .exact .nilSlice _ _
  .exact .nilFunc
  .exact .nilIface
  .exact .chan _
  .exact .iface _ _ _ (VR.closed n _ h)
  .rename_i xs;refine .agg _ _ rfl fun i u c b a=>?_;rw[b]at a;cases a;exact VR.closed n u (dS.1 h u (cP b))
  .rename_i xs;refine .tuple _ _ rfl fun i u c b a=>?_;rw[b]at a;cases a;exact VR.closed n u (dS.1 h u (cP b))
  .cases h
def VR.eq_of(hF:G.junk=false)(n:∀b b',B b b'->b=b')(h:VR G B v v'):v=v':=by
 have g:∀{a a':Addr},AddrR B a a'->a=a':=fun h=>by cases h with|mk b b' o s hb=>rw[n _ _ hb]
 have e:∀{xs xs':bJ},xs.size=xs'.size->(∀(i:Nat)(v v':Value),xs[i]?=some v->xs'[i]?=some v'->v=v')->xs=xs':=fun {xs xs'} m d=>xA m fun i j k=>d i _ _ (e3 j) (e3 k);induction h with
 |ptr a a' h=>rw[g h]|slice a a' l c h=>rw[g h]|func fn fn' xs xs' ys ys' hf d _ hy _ ih1 ih2=>rw[e d ih1,e hy ih2];cases hf with
  |func f _=>rfl|yield l l' hl=>rw[n _ _ hl]
 |iface t v v' _ ih=>rw[ih]|agg xs xs' d _ ih=>rw[e d ih]|tuple xs xs' d _ ih=>rw[e d ih]|junk v hf hv=>rw[hF]at hf;cases hf|_=>rfl
def Env.operand(G:Env):Operand->Bool|.tmp _=>true|.const v=>bG 8 v|.global g=>G.glob g|.func f=>G.good f
def Env.fnOk(G:Env):Fn->Bool|.func f=>G.good f|_=>false
def Env.zero(G:Env)(t:aN):Bool:=match (G.P.info? t).bind (·.zero)with|some v=>bG 8 v|none=>true
def Env.zeroElem(G:Env)(t:aN):Bool:=match G.P.underlying t with|some (.slice e)=>G.zero e|_=>true
def Env.sized(G:Env)(t:aN)(i:Nat):Bool:=match G.P.underlying t with
 | some (.struct fs) => match fs[i]? with | some f => (match G.P.info? f.type with | some i => i.size != 0 | none => true) | none => true
 |_=>true
def Env.flat(G:Env):Nat->TypeId->Bool|0,_=>false|n+1,t=>match G.P.underlying t with|some (.int _)|some .bool|some .string|some (.slice _)=>true|some (.struct fs)=>fs.all fun f=>G.flat n f.type|some (.array _ e)=>G.flat n e|_=>false
def Env.conv(G:Env)(b a:aN):Bool:=match G.P.underlying b,G.P.underlying a with
 |some (.int _),some (.int _)|some (.int _),some .string|some .string,some .string=>true|some .string,some (.slice e)|some (.slice e),some .string=>match G.P.underlying e with|some (.int .u8)=>true|_=>false
 |_,_=>false
def Env.call(G:Env)(c:Call):Bool:=match c.callee with|.value _=>true|.invoke _ _=>false|.builtin b=>match b with
   |.append=>(match c.argTypes[0]? with|some t=>G.zeroElem t|none=>true)&&(match c.argTypes[1]? with|some t=>(match G.P.underlying t with|some (.int _)=>false|_=>true)|none=>true)|.cap|.len=>match c.argTypes[0]? with|some t=>(match G.P.underlying t with|some (.chan _ _)=>false|_=>true)|none=>true
   |.max|.min|.copy=>true|.unsafeString=>!G.sh|_=>false
def Env.darkOp(G:Env)(o:Op):Bool:=match o with|.load t (.global g)=>G.dark g&&(match G.P.underlying t with|some (.interface _)=>true|_=>false)|_=>false
def Env.op0(G:Env)(o:Op):Bool:=o.operands.all G.operand&&match o with
  |.move _|.assign _|.pick ..|.box ..|.load ..|.store ..|.unOp ..|.makeInterface ..|.indexAddr ..|.index ..|.field ..|.slice ..|.extract ..|.panic _=>true|.nilCheck _=>!G.nn|.alloc e=>G.zero e|.build t _=>G.zero t|.buildSlice t _ _=>G.zeroElem t|.makeSlice t _ _=>G.zeroElem t|.binOp op t _ _ _=>match op with|.eql|.neq=>!G.sh||G.flat 8 t|_=>true
  |.convert s d _=>G.conv s d|.typeAssert _ _ a ok=>ok&&G.zero a|.makeFunc fn _ _=>G.fnOk fn|.fieldAddr t _ i=>G.sized t i|.range t _=>match G.P.underlying t with|some .string=>true|_=>false
  |.next _ s=>s|.call c=>G.call c|_=>false
def Env.op(G:Env)(o:Op):Bool:=G.darkOp o||G.op0 o
def Env.code(G:Env):Code->Bool|.skip|.label _|.ret|.exit _=>true| .refuse why => why != "#"|.goto _=>false|.region _ ops _=>ops.all fun o=>G.op o.op|.seq a b=>G.code a&&G.code b|.cond c a b=>G.operand c&&G.code a&&G.code b|.block _ c|.loop c|.scope c=>G.code c|.rangeFunc f _ a b=>G.operand f&&G.code a&&G.code b
def aV:Code->Bool| .refuse why => why != "#"|.seq a b=>aV a&&aV b|.cond _ a b=>aV a&&aV b|.block _ c|.loop c|.scope c=>aV c|.rangeFunc _ _ a b=>aV a&&aV b|_=>true
def jA{G:Env}:∀(c:Code),G.code c=true->aV c=true|.skip,_|.label _,_|.ret,_|.exit _,_|.goto _,_|.region ..,_=>rfl|.refuse why,h=>h|.seq a b,h=>by simp only[Env.code,aY]at h;simp only[aV,jA a h.1,jA b h.2,HE]|.cond c a b,h=>by simp only[Env.code,aY]at h;simp only[aV,jA a h.1.2,jA b h.2,HE]|.block _ c,h=>by simp only[Env.code]at h;simp only[aV,jA c h]|.loop c,h=>by simp only[Env.code]at h;simp only[aV,jA c h]|.scope c,h=>by simp only[Env.code]at h;simp only[aV,jA c h]|.rangeFunc f _ a b,h=>by simp only[Env.code,aY]at h;simp only[aV,jA a h.1.2,jA b h.2,HE]
inductive OR (G:Env)(B:Blk):Obj->Obj->Prop|cells (c c':bJ) (T:aN) (f:Nat×Nat) (h:AR G B c c'):OR G B (.cells c T f) (.cells c' T f)|deferred:OR G B (.deferred (some [])) (.deferred (some []))|taken:OR G B (.deferred none) (.deferred none)|loop (s:LoopState)(p:Option Code)(f:FuncId)(t t':bJ)(ps:Array Tmp)(aq body:Code)(d d':Nat)(hp:∀c,p=some c->G.code c=true)(ht:AR G B t t')(ha:G.code aq=true)(hb:G.code body=true)(hd:B d d'):OR G B (.loop {state:=s,pending:=p,fn:=f,tmps:=t,params:=ps,assign:=aq,body,defers:=d}) (.loop {state:=s,pending:=p,fn:=f,tmps:=t',params:=ps,assign:=aq,body,defers:=d'})|iter (s:ByteArray) (p:Nat):OR G B (.stringIter s p) (.stringIter s p)|number (a a':Addr) (lost:Bool) (h:AddrR B a a'):OR G B (.number a lost) (.number a' lost)
def OR.mono{G:Env} {B B':Blk} (h:B.le B') {o r:Obj} (x:OR G B o r):OR G B' o r:=by cases x with|cells c c' T f hc=>exact .cells c c' T f (hc.mono h)|deferred=>exact .deferred|taken=>exact .taken|loop s p f t t' ps aq body d d' hp ht ha hb hd=>exact .loop s p f t t' ps aq body d d' hp (ht.mono h) ha hb (h _ _ hd)|iter s p=>exact .iter s p|number a a' lost ha=>exact .number a a' lost (ha.mono h)
structure Side where
 sh:Nat->Prop
 till:Nat->Prop
instance:CoeFun Side (fun _=>Nat->Prop):=⟨Side.sh⟩
def eJ(S:Side)(a b:Nat):Prop:=∀j,a<=j->j<b->S.till j
def eJ.sub{S:Side} {a b c d:Nat} (h:eJ S a b) (e:a<=c) (f:d<=b):eJ S c d:=fun j x y=>h j (h9 e x) (h8 y f)
structure WR (G:Env)(S:Side)(B:Blk)(l w:World):Prop where
 fn:∀b b' c',B b b'->B b c'->b'=c'
 inj:∀b c b',B b b'->B c b'->b=c
 dom:∀b b',B b b'->b<l.heap.size/\b'<w.heap.size
 obj:∀b b',B b b'->¬S b->∃o o',l.heap[b]?=some o/\w.heap[b']?=some o'/\OR G B o o'
 shr:∀b b',B b b'->S b->∃c c' T f,l.heap[b]?=some (.cells c T (0,c.size+1))/\w.heap[b']?=some (.cells c' T f)/\AR G B c c'
 str:∀i q,S.till (l.drawn+i)->l.tape (l.drawn+i) q=w.tape (w.drawn+i) q
 glob:∀g,G.glob g=true->B g g
 low:∀b b',B b b'->(b<G.P.globals.size↔b'<G.P.globals.size)
 gsz:G.P.globals.size<=l.heap.size/\G.P.globals.size<=w.heap.size
 sh:G.sh=false->(∀b,¬S b)/\l.heap.size=w.heap.size/\∀b b',B b b'->b=b'
 dark:∀g,G.dark g=true->l.heap[g]?=some (.deferred none)/\∀b',¬B g b'
def Halt.quiet:Halt->Prop|.stuck _=>True|.panic _=>True|.unsupported (.initOrder _)=>False|.unsupported _=>True|_=>False
def Mark.quiet:Mark->Prop|.extern _|.noRoom=>True|_=>False
structure Bij (G:Env)(B:Blk):Prop where
 fn:∀b b' c',B b b'->B b c'->b'=c'
 inj:∀b c b',B b b'->B c b'->b=c
 idn:G.sh=false->∀b b',B b b'->b=b'
 low:∀b b',B b b'->(b<G.P.globals.size↔b'<G.P.globals.size)
 glob:∀g,G.glob g=true->B g g
inductive SR (G:Env) {α β:Type} (Q:Blk->α->β->Prop):Blk->Sem α->Sem β->Prop|pure (B:Blk) (a:α) (b:β) (h:Q B a b):SR G Q B (.pure a) (.pure b)|load (B:Blk) (a a':Addr) (k:Value->Sem α) (k':Value->Sem β) (ha:AddrR B a a') (h:∀v v',VR G B v v'->SR G Q B (k v) (k' v')):SR G Q B (.load .plain a k) (.load .plain a' k')|store (B:Blk) (a a':Addr) (v v':Value) (k:Sem α) (k':Sem β) (ha:AddrR B a a') (hv:VR G B v v') (h:SR G Q B k k'):SR G Q B (.store .plain a v k) (.store .plain a' v' k')|new (B:Blk) (o o':Obj) (k:Nat->Sem α) (k':Nat->Sem β) (ho:OR G B o o') (h:∀(B':Blk) (r r':Nat),B.le B'->B' r r'->SR G Q B' (k r) (k' r')):SR G Q B (.new o k) (.new o' k')|shape (B:Blk) (r r':Nat) (k:Option (TypeId×Nat)->Sem α) (k':Option (TypeId×Nat)->Sem β) (hr:B r r') (h:∀s,SR G Q B (k s) (k' s)):SR G Q B (.shape r k) (.shape r' k')|freeze (B:Blk) (a a':Addr) (n:Nat) (k:Sem α) (k':Sem β) (hs:G.sh=false) (ha:AddrR B a a') (h:SR G Q B k k'):SR G Q B (.freeze a n k) (.freeze a' n k')|frozen (B:Blk) (a a':Addr) (k:Bool->Sem α) (k':Bool->Sem β) (ha:AddrR B a a') (h:∀n n':Bool,(G.sh=false->n=n')->SR G Q B (k n) (k' n')):SR G Q B (.frozen a k) (.frozen a' k')|getObj (B:Blk) (r r':Nat) (k:Obj->Sem α) (k':Obj->Sem β) (hr:B r r') (h:∀o o',OR G B o o'->SR G Q B (k o) (k' o')):SR G Q B (.getObj r k) (.getObj r' k')|setObj (B:Blk) (r r':Nat) (o o':Obj) (k:Sem α) (k':Sem β) (hr:B r r') (ho:OR G B o o') (h:SR G Q B k k'):SR G Q B (.setObj r o k) (.setObj r' o' k')|choose (B:Blk) (q:Question) (k:Nat->Sem α) (k':Nat->Sem β) (h:∀n,SR G Q B (k n) (k' n)):SR G Q B (.choose q k) (.choose q k')|program (B:Blk) (k:Program->Sem α) (k':Program->Sem β) (h:SR G Q B (k G.P) (k' G.P)):SR G Q B (.program k) (.program k')|mark (B:Blk) (m:Mark) (k:Sem α) (k':Sem β) (hm:Mark.quiet m) (h:SR G Q B k k'):SR G Q B (.mark m k) (.mark m k')|halt (B:Blk)(h:Halt)(s':Sem β)(hq:Halt.quiet h):SR G Q B (.halt h) s'|bij (B:Blk)(s:Sem α)(s':Sem β)(h:Bij G B->SR G Q B s s'):SR G Q B s s'|newF (B:Blk)(c c':bJ)(T:aN)(k:Nat->Sem α)(k':Nat->Sem β)(k1:Nat->Option (TypeId×Nat)->Sem α)(k1':Nat->Option (TypeId×Nat)->Sem β)(hc:AR G B c c')(h1:∀r,k1 r (some (T,c.size))=.freeze ⟨r,c.size,none⟩ 1 (k r)) (h1':∀r,k1' r (some (T,c'.size))=.freeze ⟨r,c'.size,none⟩ 1 (k' r)) (h:∀(B':Blk) (r r':Nat),B.le B'->B' r r'->SR G Q B' (k r) (k' r')):SR G Q B (.new (.cells c T) fun r=>.shape r (k1 r)) (.new (.cells c' T) fun r=>.shape r (k1' r))|dead (B:Blk)(s:Sem α)(s':Sem β)(h:∀l:World,(∀g,G.dark g=true->l.heap[g]?=some (.deferred none))->∃x l',s.run G.P l=.halt x l'/\Halt.quiet x/\∀b,b<l.heap.size->l'.heap[b]?=l.heap[b]?):SR G Q B s s'
section
variable {G:Env} {α β γ δ:Type}
def SR.bind{Q:Blk->α->β->Prop} {L:Blk->γ->δ->Prop} {B:Blk} {s:Sem α} {w:Sem β} {f:α->Sem γ} {y:β->Sem δ} (h:SR G Q B s w)(K:∀(B':Blk) (a:α) (b:β),B.le B'->Q B' a b->SR G L B' (f a) (y b)):SR G L B (s.bind f) (w.bind y):=by induction h with|pure B a b h=>exact K B a b (Blk.le_refl _) h|load B a a' k k' ha h ih=>exact .load B a a' _ _ ha fun v v' A=>ih v v' A K|store B a a' v v' k k' ha A h ih=>exact .store B a a' v v' _ _ ha A (ih K)|new B o u k k' t h ih=>exact .new B o u _ _ t fun B' r e p d=>ih B' r e p d fun g a b j=>K g a b (Blk.le_trans p j)|shape B r e k k' d h ih=>exact .shape B r e _ _ d fun s=>ih s K|freeze B a a' n k k' hs ha h ih=>exact .freeze B a a' n _ _ hs ha (ih K)|frozen B a a' k k' ha h ih=>exact .frozen B a a' _ _ ha fun n J H=>ih n J H K|getObj B r e k k' d h ih=>exact .getObj B r e _ _ d fun o u t=>ih o u t K|setObj B r e o u k k' d t h ih=>exact .setObj B r e o u _ _ d t (ih K)|choose B q k k' h ih=>exact .choose B q _ _ fun n=>ih n K|program B k k' h ih=>exact .program B _ _ (ih K)|mark B m k k' hm h ih=>exact .mark B m _ _ hm (ih K)|halt B h w hh=>exact .halt B h _ hh|bij B s w h ih=>exact .bij B _ _ fun E=>ih E K|newF B c c' T k k' k1 k1' hc z h1' h ih=>exact .newF B c c' T (fun r=>(k r).bind f) (fun r=>(k' r).bind y) (fun r s=>(k1 r s).bind f) (fun r s=>(k1' r s).bind y) hc (fun r=>by rw[z];rfl) (fun r=>by rw[h1'];rfl) fun B' r e p d=>ih B' r e p d fun g a b j=>K g a b (Blk.le_trans p j)|dead B s w h=>refine .dead B _ _ fun l F=>?_;obtain⟨x,I,z,C,D⟩:=h l F;exact⟨x,I,by rw[Sem.run_bind',z];rfl,C,D⟩
def Za{Q:Blk->α->β->Prop} {g:Blk->γ->δ->Prop} {B:Blk} {s:Sem α} {d:Sem β} {f:α->Sem γ} {c:β->Sem δ} (h:SR G Q B s d)(j:∀(B':Blk) (a:α) (b:β),B.le B'->Q B' a b->SR G g B' (f a) (c b)):SR G g B (s>>=f) (d>>=c):=SR.bind h j
def SR.mono{Q C:Blk->α->β->Prop} {B:Blk} {s:Sem α} {t:Sem β} (h:SR G Q B s t)(hq:∀B' a b,B.le B'->Q B' a b->C B' a b):SR G C B s t:=by induction h with|pure B a b h=>exact .pure B a b (hq B a b (Blk.le_refl _) h)|load B a a' k k' ha h ih=>exact .load B a a' _ _ ha fun v v' u=>ih v v' u hq|store B a a' v v' k k' ha u h ih=>exact .store B a a' v v' _ _ ha u (ih hq)|new B o p k k' l h ih=>exact .new B o p _ _ l fun B' r e j d=>ih B' r e j d fun f a b g=>hq f a b (Blk.le_trans j g)|shape B r e k k' d h ih=>exact .shape B r e _ _ d fun s=>ih s hq|freeze B a a' n k k' hs ha h ih=>exact .freeze B a a' n _ _ hs ha (ih hq)|frozen B a a' k k' ha h ih=>exact .frozen B a a' _ _ ha fun n y x=>ih n y x hq|getObj B r e k k' d h ih=>exact .getObj B r e _ _ d fun o p l=>ih o p l hq|setObj B r e o p k k' d l h ih=>exact .setObj B r e o p _ _ d l (ih hq)|choose B q k k' h ih=>exact .choose B q _ _ fun n=>ih n hq|program B k k' h ih=>exact .program B _ _ (ih hq)|mark B m k k' hm h ih=>exact .mark B m _ _ hm (ih hq)|halt B h t hh=>exact .halt B h _ hh|bij B s t h ih=>exact .bij B _ _ fun w=>ih w hq|newF B c c' T k k' k1 k1' hc h1 h1' h ih=>exact .newF B c c' T k k' k1 k1' hc h1 h1' fun B' r e j d=>ih B' r e j d fun f a b g=>hq f a b (Blk.le_trans j g)|dead B s t h=>exact .dead B _ _ h
end
def bH(S:Side)(B:Blk)(e:Event):Prop:=match e.loc with|.cell a=>e.sync=false/\∃b,B b a.block/\(e.write=true->¬S b)|.obj r=>e.sync=false/\∃b,B b r/\¬S b|.mark m=>Mark.quiet m|_=>False
def bH.mono{S:Side} {B B':Blk} (h:B.le B') {e:Event} (x:bH S B e):bH S B' e:=by
 unfold bH at*;split at x;·obtain⟨a,b,c,d⟩:=x;exact⟨a,b,h _ _ c,d⟩
 .obtain⟨a,b,c,d⟩:=x;exact⟨a,b,h _ _ c,d⟩
 .exact x
 .exact x
structure Ran (G:Env)(S:Side)(B:Blk)(l w:World)(B':Blk)(l' w':World)(new:Array Event):Prop where
 le:B.le B'
 wr:WR G S B' l' w'
 al:∀b b',B' b b'->B b b'∨(l.heap.size<=b/\w.heap.size<=b'/\b+w.heap.size=b'+l.heap.size)
 keep:∀b',b'<w.heap.size->(∀b,B b b'->S b)->w'.heap[b']?=w.heap[b']?
 size:w.heap.size<=w'.heap.size/\l.heap.size<=l'.heap.size/\w'.heap.size+l.heap.size=l'.heap.size+w.heap.size
 same:w'.os=w.os/\w'.output=w.output/\w'.tape=w.tape/\w.drawn<=w'.drawn
 lone:l'.os=l.os/\l'.output=l.output/\l'.tape=l.tape/\l.drawn<=l'.drawn
 draws:w'.drawn+l.drawn=l'.drawn+w.drawn
 lkeep:∀b,b<l.heap.size->(∀b',B b b'->S b)->l'.heap[b]?=l.heap[b]?
 cov:∀b,l.heap.size<=b->b<l'.heap.size->∃b',B' b b'
 ev:∀e∈new,bH S B' e
section
variable {G:Env} {S:Side}
def Ran.refl{B:Blk} {l w:World} (h:WR G S B l w):Ran G S B l w B l w #[]:=⟨Blk.le_refl _,h,fun _ _ x=>.inl x,fun _ _ _=>rfl,⟨sW _,sW _,aM _ _⟩,⟨rfl,rfl,rfl,sW _⟩,⟨rfl,rfl,rfl,sW _⟩,aM _ _,fun _ _ _=>rfl,fun b a c=>absurd c (hQ.2 a),fun e h=>by simp at h⟩
def Ran.trans{B B' c:Blk} {l w l' w' g j:World} {n n':Array Event} (h:Ran G S B l w B' l' w' n)(k:Ran G S B' l' w' c g j n'):Ran G S B l w c g j (n++n'):=by
 obtain⟨u,z,A⟩:=h.size;obtain⟨C,D,E⟩:=k.size;refine⟨Blk.le_trans h.le k.le,k.wr,fun b a x=>?_,fun a f d=>?_,⟨Qa,Qa,Qa⟩,⟨k.same.1.trans h.same.1,k.same.2.1.trans h.same.2.1,k.same.2.2.1.trans h.same.2.2.1,h9 h.same.2.2.2 k.same.2.2.2⟩,⟨k.lone.1.trans h.lone.1,k.lone.2.1.trans h.lone.2.1,k.lone.2.2.1.trans h.lone.2.2.1,h9 h.lone.2.2.2 k.lone.2.2.2⟩,by have:=h.draws;have:=k.draws;omega,fun b f d=>?_,fun b f m=>?_,fun e t=>?_⟩
 .rcases k.al b a x with y|⟨q,r,s⟩;·exact h.al b a y
  .exact .inr ⟨Qa,Qa,Qa⟩
 .rw[k.keep a Qa fun b x=>?_,h.keep a f d];rcases h.al b a x with y|⟨q,r,s⟩;·exact d b y
  .omega
 .rw[k.lkeep b Qa fun a x=>?_,h.lkeep b f d];rcases h.al b a x with y|⟨q,r,s⟩;·exact d a y
  .omega
 .by_cases p:b<l'.heap.size;·obtain⟨a,x⟩:=h.cov b f p;exact⟨a,k.le _ _ x⟩
  .exact k.cov b Qa m
 .rcases mZ.1 t with x|x;·exact(h.ev e x).mono k.le
  .exact k.ev e x
def vL{B:Blk} {l w:World} (h:WR G S B l w) {a y:Addr} (z:AddrR B a y) {v:Value} (x:l.cell? a=some v):∃v',w.cell? y=some v'/\VR G B v v':=by cases z with|mk b b' o s hb=>
  have k:∀c e T f m n,l.heap[b]?=some (.cells c T f)->w.heap[b']?=some (.cells e m n)->AR G B c e->∃v',w.cell? ⟨b',o,s⟩=some v'/\VR G B v v':=by
   intro c e T f m n d g j;simp only[World.cell?,d]at x;split at x;·cases x
   .rename_i u;obtain⟨v',q,r⟩:=j.get x;exact⟨v',by simp[World.cell?,g,u,q],r⟩
  by_cases p:S b;·obtain⟨c,e,T,f,d,g,j⟩:=h.shr b b' hb p;exact k _ _ _ _ _ _ d g j
  .obtain⟨o1,o2,d,g,t⟩:=h.obj b b' hb p;cases t with|cells c e T f j=>exact k _ _ _ _ _ _ d g j|_=>simp[World.cell?,d]at x
def yW{B:Blk} {l w:World} (h:WR G S B l w) {a z:Addr} (A:AddrR B a z)(g:String):Halt.quiet (l.noCell a g)/\∀j u,l.heap[a.block]?≠some (.view j u):=by cases A with|mk b b' o s hb=>
  have:∃o,l.heap[b]?=some o/\(∀c e,o≠.pending c e)/\(∀x y,o≠.view x y):=by
   by_cases m:S b;·obtain⟨c,r,T,f,d,k,t⟩:=h.shr b b' hb m;exact⟨_,d,Qd,Qd⟩
   .obtain⟨o1,o2,d,k,q⟩:=h.obj b b' hb m;refine⟨_,d,?_,?_⟩<;>cases q<;>simp
  obtain⟨o1,d,k,p⟩:=this;refine⟨?_,fun x y n=>?_⟩;·unfold World.noCell;simp only[d];cases o1<;>simp_all[Halt.quiet]
  .rw[d]at n;exact p _ _ (R' n)
def ND{B:Blk} {l w:World} (h:WR G S B l w) {a f:Addr} (g:AddrR B a f)(b:Bool):∃x,l.farLoad G.P a b=.error x/\Halt.quiet x:=by
 obtain⟨c,d⟩:=yW h g "load: no such cell";refine⟨_,?_,c⟩;unfold World.farLoad;split;·rename_i x y e;exact absurd e (d _ _)
 .rfl
def NF{B:Blk} {l w:World} (h:WR G S B l w) {a f:Addr} (g:AddrR B a f)(v:Value)(b:Bool):∃x,l.farStore G.P a v b=.error x/\Halt.quiet x:=by
 obtain⟨c,d⟩:=yW h g "store: no such cell";refine⟨_,?_,c⟩;unfold World.farStore;split;·rename_i x y e;exact absurd e (d _ _)
 .rfl
def NG{B:Blk} {l w:World} (h:WR G S B l w) {r d:Nat} (j:B r d):l.shape? r=w.shape? d:=by
 by_cases g:S r;·obtain⟨c,k,T,f,a,b,e⟩:=h.shr r d j g;simp[World.shape?,a,b,e.size]
 .obtain⟨o1,o2,a,b,m⟩:=h.obj r d j g;cases m with|cells c k T f e=>simp[World.shape?,a,b,e.size]|_=>simp[World.shape?,a,b]
def IB{B:Blk} {l w:World} (h:WR G S B l w) {a j:Addr} (m:AddrR B a j)(k:¬S a.block):l.frozen? a=w.frozen? j:=by cases m with|mk b b' o s hb=>obtain⟨o1,o2,d,e,g⟩:=h.obj b b' hb k;cases g with|cells c c' T f hc=>simp[World.frozen?,d,e]|_=>simp[World.frozen?,d,e]
def NH{B:Blk} {l w:World} (h:WR G S B l w) {a q:Addr} (r:AddrR B a q) {v:Value} (p:l.cell? a=some v)(t:l.frozen? a=false):¬S a.block:=by intro e;cases r with|mk b b' o s hb=>
  obtain⟨c,g,T,f,d,j,k⟩:=h.shr b b' hb e;simp only[World.cell?,d]at p;split at p;·cases p
  .have m:o<c.size:=(bO.1 p).1;simp[World.frozen?,d]at t;omega
def WR.put{B:Blk} {l w:World} (h:WR G S B l w) {b z:Nat} (A:B b z)(C:¬S b) {o o':Obj} (y:OR G B o o'):WR G S B {l with heap:=l.heap.setIfInBounds b o} {w with heap:=w.heap.setIfInBounds z o'}:=by
 obtain⟨u,d2⟩:=h.dom _ _ A;refine⟨h.fn,h.inj,fun x k j=>by simpa using h.dom x k j,fun x k j d=>?_,fun x k j d=>?_,h.str,h.glob,h.low,by simpa using h.gsz,fun s=>⟨(h.sh s).1,by simpa using (h.sh s).2.1,(h.sh s).2.2⟩,fun g q=>⟨by have r:b≠g:=fun e=>(h.dark g q).2 z (e▸A);show (l.heap.setIfInBounds b o)[g]?=_;rw[cA r];exact(h.dark g q).1,(h.dark g q).2⟩⟩
 .by_cases e:b=x;·subst e;have a:=h.fn _ _ _ A j;subst a;exact⟨o,o',by simp[u],by simp[d2],y⟩
  .have a:z≠k:=fun a=>e (h.inj _ _ _ A (a▸j));obtain⟨o1,o2,m,n,p⟩:=h.obj x k j d;exact⟨o1,o2,by simpa [cA e] using m,by simpa [cA a] using n,p⟩
 .have e:b≠x:=fun e=>C (e▸d);have a:z≠k:=fun a=>e (h.inj _ _ _ A (a▸j));obtain⟨c,t,T,f,m,n,p⟩:=h.shr x k j d;exact⟨c,t,T,f,by simpa [cA e] using m,by simpa [cA a] using n,p⟩
def Ran.put{B:Blk} {l w:World} (h:WR G S B l w) {b p:Nat} (r:B b p)(q:¬S b) {o o':Obj} (k:OR G B o o') {e:Event} (j:bH S B e):Ran G S B l w B {l with heap:=l.heap.setIfInBounds b o} {w with heap:=w.heap.setIfInBounds p o'} #[e]:=by
 refine⟨Blk.le_refl _,h.put r q k,fun _ _ x=>.inl x,fun x m c=>?_,by simp[aM],⟨rfl,rfl,rfl,sW _⟩,⟨rfl,rfl,rfl,sW _⟩,aM _ _,fun x m c=>?_,fun x f g=>absurd g (by simpa using f),fun n d=>by simp at d;rw[d];exact j⟩
 .have a:p≠x:=fun a=>q (c b (a▸r));simp[cA a]
 .have a:b≠x:=fun a=>q (a▸c p (a▸r));simp[cA a]
def Blk.with(B:Blk)(r c:Nat):Blk:=fun b a=>B b a∨(b=r/\a=c)
def Ran.push{B:Blk} {l w:World} (h:WR G S B l w)(t:∀b,S b->b<l.heap.size) {o o':Obj} (A:OR G B o o'):Ran G S B l w (B.with l.heap.size w.heap.size) {l with heap:=l.heap.push o} {w with heap:=w.heap.push o'} #[]:=by
 have d:B.le (B.with l.heap.size w.heap.size):=fun _ _ x=>.inl x;refine⟨d,⟨?_,?_,?_,?_,?_,h.str,fun g k=>d _ _ (h.glob g k),fun b a x=>x.elim (h.low b a) fun y=>by obtain⟨rfl,rfl⟩:=y;have:=h.gsz;omega,by have:=h.gsz;simp;omega,fun p=>⟨(h.sh p).1,by simpa using (h.sh p).2.1,fun b a x=>x.elim ((h.sh p).2.2 b a) fun y=>by rw[y.1,y.2];exact(h.sh p).2.1⟩,fun g k=>⟨by have j:=(bO.1 (h.dark g k).1).1;show (l.heap.push o)[g]?=_;rw[dP j,<-e3 j];exact(h.dark g k).1,fun a x=>x.elim ((h.dark g k).2 a) fun y=>by have j:=(bO.1 (h.dark g k).1).1;have:=y.1;omega⟩⟩,?_,?_,⟨Qd,Qd,Qk⟩,⟨rfl,rfl,rfl,sW _⟩,⟨rfl,rfl,rfl,sW _⟩,aM _ _,?_,?_,fun e h=>by simp at h⟩
 .rintro b a z (x|⟨rfl,rfl⟩)(y|⟨C,rfl⟩);·exact h.fn _ _ _ x y
  .have:=(h.dom _ _ x).1;omega
  .have:=(h.dom _ _ y).1;omega
  .rfl
 .rintro b c a (x|⟨rfl,rfl⟩)(y|⟨rfl,C⟩);·exact h.inj _ _ _ x y
  .have:=(h.dom _ _ x).2;omega
  .have:=(h.dom _ _ y).2;omega
  .rfl
 .rintro b a (x|⟨rfl,rfl⟩);·have:=h.dom _ _ x;simp;omega
  .simp
 .rintro b a (x|⟨rfl,rfl⟩) m;·obtain⟨o1,o2,q,r,s⟩:=h.obj _ _ x m;have:=h.dom _ _ x;exact⟨o1,o2,by simp[dP this.1,<-q],by simp[dP this.2,<-r],s.mono d⟩
  .exact⟨o,o',Qd,Qd,A.mono d⟩
 .rintro b a (x|⟨rfl,rfl⟩) m;·obtain⟨c,z,T,f,q,r,s⟩:=h.shr _ _ x m;have:=h.dom _ _ x;exact⟨c,z,T,f,by simp[dP this.1,<-q],by simp[dP this.2,<-r],s.mono d⟩
  .exact absurd (t _ m) (X3 _)
 .rintro b a (x|⟨rfl,rfl⟩);·exact .inl x
  .exact .inr ⟨sW _,sW _,aM _ _⟩
 .intro a n _;simp[dP n]
 .intro b n _;simp[dP n]
 .intro b n u;simp at u;exact⟨_,.inr ⟨Qa,rfl⟩⟩
def Zr{B:Blk} {l w:World} (h:WR G S B l w):Ran G S B l w B {l with drawn:=l.drawn+1} {w with drawn:=w.drawn+1} #[]:=by
 refine⟨Blk.le_refl _,⟨h.fn,h.inj,h.dom,h.obj,h.shr,fun i q f=>?_,h.glob,h.low,h.gsz,h.sh,h.dark⟩,fun _ _ x=>.inl x,fun _ _ _=>rfl,⟨sW _,sW _,aM _ _⟩,⟨rfl,rfl,rfl,Qd⟩,⟨rfl,rfl,rfl,Qd⟩,Qk,fun _ _ _=>rfl,fun b c d=>absurd d (hQ.2 c),fun e h=>by simp at h⟩;have a:l.drawn+(1+i)=l.drawn+1+i:=Qa
 have:=h.str (1+i) q (a▸f);simp only[<-iI]at this;exact this
def Zo{B:Blk} {l w:World} (h:WR G S B l w) {e:Event} (f:bH S B e):Ran G S B l w B l w #[e]:=⟨Blk.le_refl _,h,fun _ _ x=>.inl x,fun _ _ _=>rfl,⟨sW _,sW _,aM _ _⟩,⟨rfl,rfl,rfl,sW _⟩,⟨rfl,rfl,rfl,sW _⟩,aM _ _,fun _ _ _=>rfl,fun b c d=>absurd d (hQ.2 c),fun g a=>by simp at a;rw[a];exact f⟩
end
variable {o:Obj}
def MB(G:Env)(S:Side) {α β:Type} (Q:Blk->α->β->Prop)(B:Blk)(s:Sem α)(g:Sem β)(l w:World)(k:Array Event):Prop:=match s.run G.P l with|.ok a l'=>eJ S l.drawn l'.drawn->∃B' b e c,g.runT G.P w k=(.ok b e,k++c)/\Ran G S B l w B' l' e c/\Q B' a b|.halt h l'=>eJ S l.drawn l'.drawn->Halt.quiet h/\∃f d j c,Ran G S B l w f d j c/\∀b,b<d.heap.size->l'.heap[b]?=d.heap[b]?
def tI{a:Array Obj} {i:Nat} (h:a[i]?=some o)(f:Obj->Obj):a.modify i f=a.setIfInBounds i (f o):=by
 have c:=(bO.1 h).1;apply dD;intro j;rw[B0,bF];by_cases b:i=j;·subst b;rw[Zde rfl,Zde rfl,Zde c,h];rfl
 .rw[q' b,q' b]
def OR.same{G:Env} {B:Blk} {o':Obj} (h:OR G B o o'):(∃c a T f,o=.cells c T f/\o'=.cells a T f/\AR G B c a)∨((∀c T f,o≠.cells c T f)/\∀c T f,o'≠.cells c T f):=by cases h with|cells c a T f h=>exact .inl ⟨_,_,_,_,rfl,rfl,h⟩|_=>exact .inr ⟨Qd,Qd⟩
section
variable {G:Env} {S:Side} {α β:Type} {Q:Blk->α->β->Prop}
def MB.next{B j:Blk} {s s₁:Sem α} {m s₁':Sem β} {l w l₁ w₁:World} {A n:Array Event} (r:s.run G.P l=s₁.run G.P l₁)(hw:m.runT G.P w A=s₁'.runT G.P w₁ (A++n))(e:Ran G S B l w j l₁ w₁ n)(h:MB G S Q j s₁ s₁' l₁ w₁ (A++n)):MB G S Q B s m l w A:=by unfold MB at*;rw[r,hw];cases k:s₁.run G.P l₁ with|ok a l'=>rw[k]at h;intro c;obtain⟨B',b,y,d,f,g,q⟩:=h (c.sub e.lone.2.2.2 (sW _));exact⟨B',b,y,n++d,by rw[f,Array.append_assoc],e.trans g,q⟩|halt x l'=>rw[k]at h;intro c;obtain⟨t,p,u,z,d,f,g⟩:=h (c.sub e.lone.2.2.2 (sW _));exact⟨t,p,u,z,n++d,e.trans f,g⟩
def MB.quiet{B:Blk} {s:Sem α} {c:Sem β} {l w:World} {d:Array Event} {h:Halt} {l':World} (j:WR G S B l w)(a:s.run G.P l=.halt h l')(g:Halt.quiet h)(f:∀b,b<l.heap.size->l'.heap[b]?=l.heap[b]?):MB G S Q B s c l w d:=by unfold MB;rw[a];exact fun _=>⟨g,B,l,w,#[],.refl j,f⟩
def HF{α:Type}:∀(a:Ask α)(w:World),w.drawn<=(w.ask a).2.drawn
 |.done a,w=>sW _|.ask what range k,w=>by
  unfold World.ask;dsimp only;split;·exact HF (k 0) w
  .have:=HF (k ((Question.extern what range).cut (w.tape w.drawn (.extern what range)))) {w with drawn:=w.drawn+1};simp only at this;omega
def NI(w:World)(c:Sys):w.drawn<=(w.sys c).2.drawn:=by
 have:=HF (Kernel.perform c w.os) w;unfold World.sys;split;·exact sW _
 .rename_i h;rw[h]at this;exact this
def left{α:Type}:Result α->World|.ok _ w=>w|.halt _ w=>w
abbrev _root_.aA:=Program
def NJ{P:aA} {w:World} {x:Addr} {u:aN} {a:Addr} {v:Value} {b:Bool} {r:World×List Addr} (h:w.viewStore P x u a v b=.ok r):r.1.drawn=w.drawn:=by
 unfold World.viewStore at h;simp only[bind,Except.bind,pure,Except.pure,throw,throwThe,MonadExceptOf.throw]at h;repeat' split at h
 all_goals first|(cases h;done)|(cases h;rfl)
def pZ(P:aA) {α:Type} (s:Sem α):∀w:World,w.drawn<=(left (s.run P w)).drawn:=by induction s with
 |pure a=>exact fun w=>sW _|load m a k ih=>intro w;unfold Sem.run;cases w.cell? a with|some v=>exact ih _ w|none=>dsimp only;cases w.farLoad P a (m==.atomic)with|ok r=>exact ih _ w|error h=>exact sW _
 |store m a v k ih=>
  intro w;have e:∀r,w.farStore P a v (m==.atomic)=.ok r->r.1.drawn=w.drawn:=by
   intro r b;unfold World.farStore at b;split at b
   .split at b;·rename_i h;cases b;exact NJ h
    .cases b
   .cases b
  have d:w.drawn<=(left (match w.cell? a with|some _=>if w.frozen? a then .halt (.unsupported (.unsafePointer "a write to bytes that a string shares")) w else k.run P (w.setCell a v)|none=>match w.farStore P a v (m==.atomic)with|.ok (w,_)=>k.run P w|.error h=>.halt h w)).drawn:=by cases w.cell? a with
   |some u=>
    dsimp only;split;·exact sW _
    .exact ih (w.setCell a v)|none=>dsimp only;cases f:w.farStore P a v (m==.atomic)with
    |ok r=>have:=ih r.1;rw[e r f]at this;exact this|error h=>exact sW _
  cases v<;>first
   |exact d|exact sW _
 |new o k ih=>exact fun w=>ih _ {w with heap:=w.heap.push o}|shape r k ih=>exact fun w=>ih _ w|freeze a n k ih=>
  intro w;have:(w.freeze a n).drawn=w.drawn:=by unfold World.freeze;split<;>rfl
  have h:=ih (w.freeze a n);rw[this]at h;exact h|frozen a k ih=>exact fun w=>ih _ w|getObj r k ih=>
  intro w;unfold Sem.run;split;·exact sW _
  .exact ih _ w
  .exact sW _|setObj r o k ih=>
  intro w;unfold Sem.run;split;·exact sW _
  .exact ih {w with heap:=w.heap.setIfInBounds r o}
  .exact sW _|choose q k ih=>
  intro w;unfold Sem.run;split;·exact ih _ w
  .have:=ih (q.cut (w.tape w.drawn q)) {w with drawn:=w.drawn+1};exact h9 (Nat.le_succ _) this|sys c k ih=>intro w;exact h9 (NI w c) (ih (w.sys c).1 (w.sys c).2)|program k ih=>exact fun w=>ih _ w|mark m k ih=>exact fun w=>ih w|halt h=>exact fun w=>sW _
def IC(l:World)(c:bJ)(T:aN):({l with heap:=l.heap.push (.cells c T)}:World).freeze ⟨l.heap.size,c.size,none⟩ 1={l with heap:=l.heap.push (.cells c T (c.size,c.size+1))}:=by
 unfold World.freeze;rw[q' Qc];have h:(l.heap.push (.cells c T))[l.heap.size]?=some (.cells c T):=Qd
 dsimp only;rw[tI h];congr 1;apply dD;intro j;rw[bF];by_cases a:l.heap.size=j;·subst a;simp
 .rw[q' a,eS,eS,q' (fun e=>a e.symm),q' (fun e=>a e.symm)]
def SR.run{B:Blk} {s:Sem α} {s':Sem β} (h:SR G Q B s s'):∀(l w:World)(es:Array Event),WR G S B l w->(∀b,S b->b<l.heap.size)->MB G S Q B s s' l w es:=by induction h with
 |pure B a b h=>intro l w es d j;exact fun _=>⟨B,b,w,#[],by simp[Sem.runT,-Sem.runT_eq],.refl d,h⟩|load B a a' k k' ha h ih=>intro l w es d j;cases M:l.cell? a with
  |none=>obtain⟨x,A,I⟩:=ND d ha (Mode.plain==Mode.atomic);refine MB.quiet (h:=x) (l':=l) d ?_ I (fun _ _=>rfl);simp only[Sem.run,M,A]|some v=>
   obtain⟨v',aE,aF⟩:=vL d ha M;refine MB.next (s₁:=k v) (s₁':=k' v') (l₁:=l) (w₁:=w) (n:=#[⟨.cell a',false,false⟩]) (by simp only[Sem.run,M]) ?_ (Zo d ?_) (ih v v' aF l w _ d j);·simp only[Sem.runT,aE];rw[GS];rfl
   .cases ha with|mk b b' o s hb=>exact⟨rfl,b,hb,Qd⟩
 |store B a a' v v' k k' ha M h ih=>
  intro l w es d j;have aB:(∀xs,v≠.agg xs)->(∀xs,v≠.tuple xs)->MB G S Q B (.store .plain a v k) (.store .plain a' v' k') l w es:=by
   intro n1 n2;have N:(Sem.store .plain a v k).run G.P l=match l.cell? a with
     |some _=>if l.frozen? a then .halt (.unsupported (.unsafePointer "a write to bytes that a string shares")) l else k.run G.P (l.setCell a v)|none=>match l.farStore G.P a v (Mode.plain==.atomic)with
      |.ok (w,_)=>k.run G.P w|.error h=>.halt h l:=by cases v<;>first|rfl|exact absurd rfl (n1 _)|exact absurd rfl (n2 _)
   have Y:(Sem.store .plain a' v' k').runT G.P w es=match w.cell? a' with
     |some _=>if w.frozen? a' then (.halt (.unsupported (.unsafePointer "a write to bytes that a string shares")) w,es)else k'.runT G.P (w.setCell a' v') (es.push ⟨.cell a',true,Mode.plain==.atomic⟩)|none=>match w.farStore G.P a' v' (Mode.plain==.atomic)with|.ok (w,touched)=>k'.runT G.P w (es++touched.toArray.map (⟨.cell ·,true,Mode.plain==.atomic⟩))|.error h=>(.halt h w,es):=by cases M<;>first|rfl|exact absurd rfl (n1 _)|exact absurd rfl (n2 _)
   cases H:l.cell? a with
   |none=>obtain⟨x,A,I⟩:=NF d ha v (Mode.plain==Mode.atomic);refine MB.quiet (h:=x) (l':=l) d ?_ I (fun _ _=>rfl);rw[N,H];simp only[A]|some u=>cases L:l.frozen? a with
    |true=>refine MB.quiet (h:=.unsupported (.unsafePointer "a write to bytes that a string shares")) (l':=l) d ?_ trivial (fun _ _=>rfl);rw[N,H];simp only[L,ZyJ]|false=>
     have K:=NH d ha H L;have aC:w.frozen? a'=false:=by rw[<-IB d ha K];exact L
     obtain⟨u',aD,_⟩:=vL d ha H;cases ha with|mk b b' o s hb=>obtain⟨o1,o2,y,F,D⟩:=d.obj b b' hb K;cases D with
      |cells c C T f R=>
       have J:s.isSome=false:=by cases hh:s.isSome with
        |false=>rfl|true=>simp[World.cell?,y,hh]at H
       have w1:l.setCell ⟨b,o,s⟩ v={l with heap:=l.heap.setIfInBounds b (.cells (c.setIfInBounds o v) T f)}:=by unfold World.setCell;rw[tI y];simp[J]
       have w2:w.setCell ⟨b',o,s⟩ v'={w with heap:=w.heap.setIfInBounds b' (.cells (C.setIfInBounds o v') T f)}:=by unfold World.setCell;rw[tI F];simp[J]
       have t:=Ran.put d hb K (OR.cells _ _ T f (R.set o M)) (e:=⟨.cell ⟨b',o,s⟩,true,false⟩) ⟨rfl,b,hb,fun _=>K⟩;refine MB.next (s₁:=k) (s₁':=k') (n:=#[⟨.cell ⟨b',o,s⟩,true,false⟩]) ?_ ?_ t (ih _ _ _ t.wr (fun x A=>by simpa using j x A));·rw[N,H];simp only[L,ZyI,nK,w1]
       .rw[Y,aD];simp only[aC,ZyI,nK,w2];rw[GS];rfl|_=>simp[World.cell?,y]at H
  cases M with
  |agg xs xs' A hxs=>exact MB.quiet (h:=.stuck "store: not the value of one cell") (l':=l) d rfl trivial (fun _ _=>rfl)|tuple xs xs' A hxs=>exact MB.quiet (h:=.stuck "store: not the value of one cell") (l':=l) d rfl trivial (fun _ _=>rfl)|junk v L M=>exact MB.quiet (h:=.stuck "store: not the value of one cell") (l':=l) d rfl trivial (fun _ _=>rfl)|_=>exact aB Qd Qd
 |new B o o' k k' D h ih=>intro l w es d j;have t:=Ran.push d j D;exact MB.next (s₁:=k l.heap.size) (s₁':=k' w.heap.size) (n:=#[]) rfl (by simp only[Sem.runT,Q']) t (ih _ _ _ t.le (.inr ⟨rfl,rfl⟩) _ _ _ t.wr (fun x A=>by have:=j x A;simp;omega))|shape B r r' k k' E h ih=>intro l w es d j;have e:=NG d E;exact MB.next (s₁:=k (l.shape? r)) (s₁':=k' (w.shape? r')) (n:=#[]) rfl (by simp only[Sem.runT,Q']) (.refl d) (by rw[<-e];exact ih _ _ _ _ d j)|freeze B a a' n k k' J ha h ih=>intro l w es d j;cases ha with|mk b b' o s hb=>
   have O:=(d.sh J).1 b;obtain⟨o1,o2,y,F,D⟩:=d.obj b b' hb O;by_cases X:n=0
   .refine MB.next (s₁:=k) (s₁':=k') (n:=#[]) (l₁:=l) (w₁:=w) ?_ ?_ (.refl d) (ih _ _ _ d j);·simp[Sem.run,World.freeze,X]
    .simp[Sem.runT,World.freeze,X,-Sem.runT_eq]
   .have g1:∃x x',OR G B x x'/\l.freeze ⟨b,o,s⟩ n={l with heap:=l.heap.setIfInBounds b x}/\w.freeze ⟨b',o,s⟩ n={w with heap:=w.heap.setIfInBounds b' x'}:=by
     rcases D.same with⟨c,C,T,⟨lo,hi⟩,rfl,rfl,R⟩|⟨n1,n2⟩
     .refine⟨_,_,OR.cells c C T (if lo==hi then (o,o+n)else (min lo o,max hi (o+n))) R,?_,?_⟩;·unfold World.freeze;rw[q' X,tI y]
      .unfold World.freeze;rw[q' X,tI F]
     .refine⟨o1,o2,D,?_,?_⟩;·unfold World.freeze;rw[q' X,tI y];cases o1<;>first|rfl|exact absurd rfl (n1 _ _ _)
      .unfold World.freeze;rw[q' X,tI F];cases o2<;>first|rfl|exact absurd rfl (n2 _ _ _)
    obtain⟨x,x',A,N,Y⟩:=g1;have t:=Ran.put d hb O A (e:=⟨.cell ⟨b',o,s⟩,true,false⟩) ⟨rfl,b,hb,fun _=>O⟩;have Z:Ran G S B l w B {l with heap:=l.heap.setIfInBounds b x} {w with heap:=w.heap.setIfInBounds b' x'} #[]:=⟨t.le,t.wr,t.al,t.keep,t.size,t.same,t.lone,t.draws,t.lkeep,t.cov,fun e h=>by simp at h⟩;exact MB.next (s₁:=k) (s₁':=k') (n:=#[]) (by simp only[Sem.run,N]) (by simp only[Sem.runT,Y,Q']) Z (ih _ _ _ Z.wr (fun x A=>by simpa using j x A))|frozen B a a' k k' ha h ih=>intro l w es d j;refine MB.next (s₁:=k (l.frozen? a)) (s₁':=k' (w.frozen? a')) (n:=#[]) rfl (by simp only[Sem.runT,Q']) (.refl d) (ih _ _ (fun J=>?_) _ _ _ d j);exact IB d ha ((d.sh J).1 _)|getObj B r r' k k' E h ih=>
  intro l w es d j;by_cases z:S r;·obtain⟨c,C,T,f,y,F,H⟩:=d.shr r r' E z;exact MB.quiet (h:=.stuck "getObj: a row of cells") (l':=l) d (by simp only[Sem.run,y]) trivial (fun _ _=>rfl)
  .obtain⟨o1,o2,y,F,D⟩:=d.obj r r' E z;by_cases p:∃c T f,o1=.cells c T f;·obtain⟨c,T,f,rfl⟩:=p;exact MB.quiet (h:=.stuck "getObj: a row of cells") (l':=l) d (by simp only[Sem.run,y]) trivial (fun _ _=>rfl)
   .refine MB.next (s₁:=k o1) (s₁':=k' o2) (l₁:=l) (w₁:=w) (n:=#[⟨.obj r',false,false⟩]) ?_ ?_ (Zo d ⟨rfl,r,E,z⟩) (ih o1 o2 D l w _ d j);·cases D<;>first|exact absurd ⟨_,_,_,rfl⟩ p|simp only[Sem.run,y]
    .cases D<;>first|exact absurd ⟨_,_,_,rfl⟩ p|(simp only[Sem.runT,F,Obj.isChan];rw[GS])
 |setObj B r r' o o' k k' E D h ih=>
  intro l w es d j;by_cases z:S r;·obtain⟨c,C,T,f,y,F,H⟩:=d.shr r r' E z;exact MB.quiet (h:=.stuck "setObj: a row of cells") (l':=l) d (by simp only[Sem.run,y]) trivial (fun _ _=>rfl)
  .obtain⟨o1,o2,y,F,aA⟩:=d.obj r r' E z;by_cases p:∃c T f,o1=.cells c T f;·obtain⟨c,T,f,rfl⟩:=p;exact MB.quiet (h:=.stuck "setObj: a row of cells") (l':=l) d (by simp only[Sem.run,y]) trivial (fun _ _=>rfl)
   .have t:=Ran.put d E z D (e:=⟨.obj r',true,false⟩) ⟨rfl,r,E,z⟩;refine MB.next (s₁:=k) (s₁':=k') (n:=#[⟨.obj r',true,false⟩]) ?_ ?_ t (ih _ _ _ t.wr (fun x A=>by simpa using j x A));·cases aA<;>first|exact absurd ⟨_,_,_,rfl⟩ p|simp only[Sem.run,y]
    .have e3:o'.isChan=false:=by cases D<;>rfl
     cases aA<;>first|exact absurd ⟨_,_,_,rfl⟩ p|(simp only[Sem.runT,F,e3];rw[GS])
 |choose B q k k' h ih=>
  intro l w es d j;by_cases I:q.forced=true;·exact MB.next (s₁:=k 0) (s₁':=k' 0) (l₁:=l) (w₁:=w) (n:=#[]) (by simp only[Sem.run,I,ZyJ]) (by simp only[Sem.runT,I,ZyJ,Q']) (.refl d) (ih 0 l w _ d j)
  .have t:=Zr d;by_cases V:S.till l.drawn;case neg=>
    have W:=pZ G.P (k (q.cut (l.tape l.drawn q))) {l with drawn:=l.drawn+1};have e0:(Sem.choose q k).run G.P l=(k (q.cut (l.tape l.drawn q))).run G.P {l with drawn:=l.drawn+1}:=by simp only[Sem.run,I,ZyI,nK]
    unfold MB;rw[e0];cases E:(k (q.cut (l.tape l.drawn q))).run G.P {l with drawn:=l.drawn+1} with
    |ok a l'=>rw[E]at W;intro U;exact absurd (U l.drawn (sW _) W) V|halt x l'=>rw[E]at W;intro U;exact absurd (U l.drawn (sW _) W) V
   have e:=d.str 0 q V;simp only[w7]at e;refine MB.next (s₁:=k (q.cut (l.tape l.drawn q))) (s₁':=k' (q.cut (w.tape w.drawn q))) (n:=#[]) (by simp only[Sem.run,I,ZyI,nK]) (by simp only[Sem.runT,I,ZyI,nK,Q']) t ?_;rw[e];exact ih _ _ _ _ t.wr j|program B k k' h ih=>intro l w es d j;exact MB.next (s₁:=k G.P) (s₁':=k' G.P) (n:=#[]) rfl (by simp only[Sem.runT,Q']) (.refl d) (ih _ _ _ d j)|mark B m k k' W h ih=>intro l w es d j;refine MB.next (s₁:=k) (s₁':=k') (l₁:=l) (w₁:=w) (n:=#[⟨.mark m,false,true⟩]) rfl ?_ (Zo d W) (ih _ _ _ d j);simp only[Sem.runT];rw[GS]|halt B x s' I=>intro l w es d j;exact MB.quiet (h:=x) (l':=l) d rfl I (fun _ _=>rfl)|bij B s s' h ih=>exact fun l w es d j=>ih ⟨d.fn,d.inj,fun h=>(d.sh h).2.2,d.low,d.glob⟩ l w es d j|newF B c C T k k' k1 k1' H y h1' h ih=>
  intro l w es d j;have t:=Ran.push d j (o:=.cells c T (c.size,c.size+1)) (o':=.cells C T (c.size,c.size+1)) (.cells c C T _ H);have N:(Sem.new (.cells c T) fun r=>.shape r (k1 r)).run G.P l=(k l.heap.size).run G.P {l with heap:=l.heap.push (.cells c T (c.size,c.size+1))}:=by
   have J:({l with heap:=l.heap.push (.cells c T)}:World).shape? l.heap.size=some (T,c.size):=by simp[World.shape?]
   have L:({l with heap:=l.heap.push (.cells c T)}:World).freeze ⟨l.heap.size,c.size,none⟩ 1={l with heap:=l.heap.push (.cells c T (c.size,c.size+1))}:=IC l c T;simp only[Sem.run,J,y,L]
  have Y:(Sem.new (.cells C T) fun r=>.shape r (k1' r)).runT G.P w es=(k' w.heap.size).runT G.P {w with heap:=w.heap.push (.cells C T (c.size,c.size+1))} es:=by
   have J:({w with heap:=w.heap.push (.cells C T)}:World).shape? w.heap.size=some (T,C.size):=by simp[World.shape?]
   have L:({w with heap:=w.heap.push (.cells C T)}:World).freeze ⟨w.heap.size,C.size,none⟩ 1={w with heap:=w.heap.push (.cells C T (c.size,c.size+1))}:=by rw[H.size];exact IC w C T
   simp only[Sem.runT,J,h1',L]
  exact MB.next (s₁:=k l.heap.size) (s₁':=k' w.heap.size) (n:=#[]) N (by rw[Y,Q']) t (ih _ _ _ t.le (.inr ⟨rfl,rfl⟩) _ _ _ t.wr (fun x A=>by have:=j x A;simp;omega))|dead B s s' h=>intro l w es d j;obtain⟨x,l',y,F,h3⟩:=h l fun g hg=>(d.dark g hg).1;exact MB.quiet d y F h3
end
section
variable {G:Env} {α β:Type} {Q:Blk->α->β->Prop} {B:Blk}
def QE{α:Type}:Blk->α->α->Prop:=fun _ a b=>a=b
def QV(G:Env):Blk->Value->Value->Prop:=fun B a b=>VR G B a b
def QA(G:Env):Blk->Array Value->Array Value->Prop:=fun B a b=>AR G B a b
def QU:Blk->Unit->Unit->Prop:=fun _ _ _=>True
def Zy{a:α} {b:β} (h:Q B a b):SR G Q B (Pure.pure a:Sem α) (Pure.pure b:Sem β):=.pure B a b h
def aQ(a:String)(b:Sem β):SR G Q B (stuck a:Sem α) b:=.halt B _ b trivial
def nZ{u:Unsupported} (b:∀g,u≠.initOrder g)(a:Sem β):SR G Q B (unsupported u:Sem α) a:=.halt B _ a (by cases u<;>first|exact absurd rfl (b _)|trivial)
def GY{v v':Value} (h:VR G B v v'):SR G Q B (goPanic v:Sem α) (goPanic v':Sem β):=.halt B _ _ trivial
def B8{a c:Addr} (h:AddrR B a c):SR G (QV G) B (load a) (load c):=.load B a c _ _ h fun v v' b=>.pure B v v' b
def NK{a b:Addr} {v v':Value} (h:AddrR B a b) (c:VR G B v v'):SR G QU B (store a v) (store b v'):=.store B a b v v' _ _ h c (.pure B _ _ trivial)
def X6{o c:Obj} (h:OR G B o c):SR G (fun B r a=>B r a) B (newObj o) (newObj c):=.new B o c _ _ h fun B' r a _ b=>.pure B' r a b
def fB{r a:Nat} (h:B r a):SR G QE B (shape r) (shape a):=.shape B r a _ _ h fun s=>.pure B s s rfl
def NL{a b:Addr} {n:Nat} (c:G.sh=false) (h:AddrR B a b):SR G QU B (freeze a n) (freeze b n):=.freeze B a b n _ _ c h (.pure B _ _ trivial)
def NM{a d:Addr} (h:AddrR B a d):SR G (fun _ n b=>G.sh=false->n=b) B (frozen a) (frozen d):=.frozen B a d _ _ h fun n b c=>.pure B n b c
def iJ{r b:Nat} (h:B r b):SR G (fun B o a=>OR G B o a) B (getObj r) (getObj b):=.getObj B r b _ _ h fun o a c=>.pure B o a c
def CB{r a:Nat} {o c:Obj} (h:B r a) (b:OR G B o c):SR G QU B (setObj r o) (setObj a c):=.setObj B r a o c _ _ h b (.pure B _ _ trivial)
def W8(q:Question):SR G QE B (choose q) (choose q):=.choose B q _ _ fun n=>.pure B n n rfl
def bI:SR G (fun _ a b=>a=G.P/\b=G.P) B program program:=.program B _ _ (.pure B _ _ ⟨rfl,rfl⟩)
def yX{m:Mark} (h:Mark.quiet m):SR G QU B (mark m) (mark m):=.mark B m _ _ h (.pure B _ _ trivial)
def vM(n:Nat):SR G QU B (askRoom n) (askRoom n):=by
 unfold askRoom;split;·exact yX trivial
 .exact Zy trivial
def cX(t:aN):SR G (fun _ a b=>a=b/\G.P.info? t=some a) B (typeInfo t) (typeInfo t):=by unfold typeInfo;refine Za bI fun B' a b d c=>?_;obtain⟨rfl,rfl⟩:=c;cases h:G.P.info? t with|some i=>exact Zy ⟨rfl,rfl⟩|none=>exact aQ _ _
def aO(t:aN):SR G (fun _ a b=>a=b/\G.P.underlying t=some a) B (underlying t) (underlying t):=by unfold underlying;refine Za bI fun B' a b d c=>?_;obtain⟨rfl,rfl⟩:=c;cases h:G.P.underlying t with|some i=>exact Zy ⟨rfl,rfl⟩|none=>exact aQ _ _
def XA{t:aN} (h:G.zero t=true):SR G (fun B a b=>VR G B a b/\a=b/\bG 8 a=true) B (zeroValue t) (zeroValue t):=by unfold zeroValue;refine Za (cX t) fun B' a b f c=>?_;obtain⟨rfl,d⟩:=c;unfold Env.zero at h;rw[d]at h;simp only[B5]at h;cases e:a.zero with|none=>exact nZ Qd _|some v=>rw[e]at h;exact Zy ⟨VR.closed 8 v h,rfl,h⟩
def aR(t:aN):SR G QE B (sizeOf t) (sizeOf t):=by unfold sizeOf;refine Za (cX t) fun B' a b d c=>?_;obtain⟨rfl,e⟩:=c;exact Zy rfl
def yY(t:aN):SR G QE B (isAgg t) (isAgg t):=by unfold isAgg;refine Za (aO t) fun B' a b d c=>?_;obtain⟨rfl,e⟩:=c;split<;>exact Zy rfl
def NN(t:aN):SR G QE B (elemOf t) (elemOf t):=by
 unfold elemOf;refine Za (aO t) fun B' a b d c=>?_;obtain⟨rfl,e⟩:=c;split;·exact Zy rfl
 .exact aQ _ _
def AddrR.add{a a':Addr} (h:AddrR B a a') (n:Nat):AddrR B (a.add n) (a'.add n):=by cases h with|mk b b' o s hb=>
  unfold Addr.add;split;·exact .mk _ _ _ _ hb
  .exact .mk _ _ _ _ hb
def ID{a g:Addr}:∀(n i:Nat) {B:Blk} {c b:bJ},AddrR B a g->AR G B c b->SR G (QA G) B (loadCellsFrom a i n c) (loadCellsFrom g i n b)|0,i,B,c,b,h,ha=>Zy ha|n+1,i,B,c,b,h,ha=>by unfold loadCellsFrom;refine Za (B8 (h.add i)) fun B' v v' d f=>?_;have e:=h.mono d;exact ID n (i+1) e ((ha.mono d).push f)
def p6{a b:Addr} (h:AddrR B a b) (n:Nat):SR G (QA G) B (loadCells a n) (loadCells b n):=ID n 0 h AR.empty
abbrev _root_.hD:=List Value
inductive LR (G:Env)(B:Blk):List Value->List Value->Prop|nil:LR G B [] []|cons (v v':Value) (vs vs':hD) (h:VR G B v v') (hs:LR G B vs vs'):LR G B (v::vs) (v'::vs')
def LR.mono{B':Blk} (hB:B.le B') {C r:hD} (h:LR G B C r):LR G B' C r:=by induction h with|nil=>exact .nil|cons v v' C r h hs ih=>exact .cons v v' C r (h.mono hB) ih
def IE:∀{vs vs':hD},vs.length=vs'.length->(∀(i:Nat)(v v':Value),vs[i]?=some v->vs'[i]?=some v'->VR G B v v')->LR G B vs vs'|[],[],_,_=>.nil|v::vs,v'::vs',h,hv=>.cons _ _ _ _ (hv 0 v v' rfl rfl) (IE (by simpa using h) fun i u c b a=>hv (i+1) u c (by simpa using b) (by simpa using a))
def AR.list{xs xs':bJ} (h:AR G B xs xs'):LR G B xs.toList xs'.toList:=IE (by simpa using h.size) fun i u c b a=>h.at_ i u c (by simpa using b) (by simpa using a)
def LR.get{f d:hD} (h:LR G B f d):f.length=d.length/\∀(i:Nat)(v v':Value),f[i]?=some v->d[i]?=some v'->VR G B v v':=by induction h with|nil=>exact⟨rfl,fun i v v' h=>by simp at h⟩|cons v v' f d h hs ih=>refine⟨by simp[ih.1],fun i u c b a=>?_⟩;cases i with|zero=>simp at b a;rw[<-b,<-a];exact h|succ i=>exact ih.2 i u c (by simpa using b) (by simpa using a)
def LR.array{e d:hD} (h:LR G B e d):AR G B e.toArray d.toArray:=⟨by simpa using h.get.1,fun i u c b a=>h.get.2 i u c (by simpa using b) (by simpa using a)⟩
def nA:∀{vs vs':hD} {B:Blk} {a a':Addr} (i:Nat),AddrR B a a'->LR G B vs vs'->SR G QU B (storeCells a vs i) (storeCells a' vs' i)|_,_,B,a,a',i,h,.nil=>by unfold storeCells;exact Zy trivial|_,_,B,a,a',i,h,.cons v v' vs vs' hv hs=>by unfold storeCells;refine Za (NK (h.add i) hv) fun B' _ _ b _=>?_;exact nA (i+1) (h.mono b) (hs.mono b)
def yZ{a l:Addr} (t:aN) (h:AddrR B a l):SR G (QV G) B (loadVar t a) (loadVar t l):=by
 unfold loadVar;refine Za (yY t) fun B' x y e d=>?_;obtain rfl:=d;split
 .refine Za (aR t) fun f n m b c=>?_;obtain rfl:=c;refine Za (p6 ((h.mono e).mono b) n) fun k xs xs' g j=>?_;exact Zy (Zf j)
 .exact B8 (h.mono e)
def NO{a f:Addr} {v v':Value} (t:aN) (h:AddrR B a f) (g:VR G B v v'):SR G QU B (storeVar t a v) (storeVar t f v'):=by
 unfold storeVar;refine Za (aR t) fun B' n m d c=>?_;obtain rfl:=c;have e:=g.cells;dsimp only;by_cases b:v.cells.size≠n;·rw[Zde b];exact SR.halt _ (.stuck _) _ trivial
 .rw[q' b,q' (by rw[<-e.size];exact b)];exact nA 0 (h.mono d) (e.mono d).list
def X7{xs xs':bJ} (t:aN) (h:AR G B xs xs'):SR G (fun B a b=>AddrR B a b) B (newRow t xs) (newRow t xs'):=by unfold newRow;refine Za (X6 (OR.cells _ _ t (0,0) h)) fun B' r e d c=>?_;exact Zy (.mk _ _ _ _ c)
def y7{v v':Value} (t:aN) (h:VR G B v v'):SR G (fun B a b=>AddrR B a b) B (newVar t v) (newVar t v'):=X7 t h.cells
def Q9{xs xs':bJ} (t:aN) (l:Nat) (h:AR G B xs xs'):SR G (QV G) B (part t xs l) (part t xs' l):=by
 unfold part;refine Za (yY t) fun B' x y g d=>?_;obtain rfl:=d;have e:=h.mono g;split;·refine Za (aR t) fun f n m a b=>?_;obtain rfl:=b;exact Zy (Zf ((e.mono a).extract _ _))
 .cases k:xs[l]? with|none=>exact aQ _ _|some v=>obtain⟨v',c,j⟩:=e.get k;rw[c];exact Zy j
def HG(s:String):VR G B (strVal s) (strVal s):=.string _
def dE{e:RuntimeError} (h:match e with|.bounds ..|.error _|.plain _|.nilDeref=>True|_=>False):SR G Q B (runtimePanic e:Sem α) (runtimePanic e:Sem β):=by unfold runtimePanic;refine Za bI fun B' a b f d=>?_;obtain⟨rfl,rfl⟩:=d;cases e with|bounds x y s c=>exact GY (.iface _ _ _ (Zf (((AR.one (.int _ _)).push (.int _ _)).push (.bool _)|>.push (.int _ _))))|error m=>exact GY (.iface _ _ _ (HG _))|plain m=>exact GY (.iface _ _ _ (HG _))|nilDeref=>exact GY (.iface _ _ _ (HG _))|_=>exact h.elim
def U1(k:IntKind) (x y:Int) (c:BoundsCode):SR G Q B (boundsPanic k x y c:Sem α) (boundsPanic k x y c:Sem β):=by
 unfold boundsPanic;dsimp only;split
 .refine Za (Q:=QE) (Za (W8 _) fun B' a b e d=>?_) fun B' a b e d=>?_;·obtain rfl:=d;exact Zy rfl
  .obtain rfl:=d;exact dE trivial
 .exact Za (Q:=QE) (Zy rfl) fun B' a b e d=>by obtain rfl:=d;exact dE trivial
def CM{v v':Value} (h:VR G B v v'):SR G QE B (asIntOf v) (asIntOf v'):=by cases h with|int k n=>exact Zy rfl|ptr a a' h=>exact nZ Qd _|_=>exact aQ _ _
def X9{v v':Value} (h:VR G B v v'):SR G QE B (asInt v) (asInt v'):=by unfold asInt;refine Za (CM h) fun B' a b d c=>?_;obtain rfl:=c;exact Zy rfl
def p7{v v':Value} (h:VR G B v v'):SR G QE B (asBool v) (asBool v'):=by cases h with|bool b=>exact Zy rfl|_=>exact aQ _ _
def NQ{v v':Value} (h:VR G B v v'):SR G (QA G) B (asAgg v) (asAgg v'):=by cases h with|agg xs xs' hx hxs=>exact Zy ⟨hx,hxs⟩|_=>exact aQ _ _
def vN{v v':Value} (h:VR G B v v'):SR G (fun B a b=>AddrR B a b) B (asAddr v) (asAddr v'):=by cases h with|ptr a b h=>exact Zy h|nilPtr=>exact dE (e:=.nilDeref) trivial|_=>exact aQ _ _
def C3{v v':Value} (h:VR G B v v'):SR G (fun B a b=>AddrR B a b) B (Instr.sureAddr v) (Instr.sureAddr v'):=by cases h with|ptr a b h=>exact Zy h|_=>exact aQ _ _
end
section
variable {G:Env} {α β:Type} {Q:Blk->α->β->Prop} {B:Blk}
def VR.ofAddr{a b:Addr} (h:AddrR B a b):VR G B (.pointer (some a)) (.pointer (some b)):=.ptr a b h
def NS{t:aN} (h:G.zero t=true):SR G (QV G) B (Instr.alloc t true (.tuple #[])) (Instr.alloc t true (.tuple #[])):=by unfold Instr.alloc;refine Za (XA h) fun B' z k j f=>?_;obtain⟨c,rfl,_⟩:=f;refine Za (y7 t c) fun b a g d e=>?_;exact Zy (.ofAddr e)
def NT{t:aN} {v v':Value} (h:VR G B v v'):SR G (QV G) B (Instr.box t v) (Instr.box t v'):=by unfold Instr.box;refine Za (y7 t h) fun b a e c d=>?_;exact Zy (.ofAddr d)
def NU{t:aN} {v v':Value} (h:VR G B v v'):SR G (QV G) B (Instr.loadAt t v) (Instr.loadAt t v'):=by unfold Instr.loadAt;exact Za (C3 h) fun B' a c d b=>yZ t b
def NV{t:aN} {v v' u b:Value} (h:VR G B v v') (f:VR G B u b):SR G QU B (Instr.storeAt t v u) (Instr.storeAt t v' b):=by unfold Instr.storeAt;exact Za (C3 h) fun B' a e c d=>NO t d (f.mono c)
def NW{v v':Value} (h:VR G B v v') (i:Nat):SR G (QV G) B (Instr.extract v i) (Instr.extract v' i):=by unfold Instr.extract;cases h with
 |tuple xs xs' hx hxs=>have b:AR G B xs xs':=⟨hx,hxs⟩;dsimp only;cases d:xs[i]? with|none=>exact aQ _ _|some v=>obtain⟨v',a,c⟩:=b.get d;rw[a];exact Zy c
 |_=>exact aQ _ _
def NX{v v':Value} (h:VR G B v v') (t:aN) (i:Nat):SR G (QV G) B (Instr.field t v i) (Instr.field t v' i):=by
 unfold Instr.field;refine Za (aO t) fun B' d g b e=>?_;obtain⟨rfl,_⟩:=e;split
 .split;·exact Za (NQ (h.mono b)) fun a xs xs' c f=>Q9 _ _ f
  .exact aQ _ _
 .exact aQ _ _
def NY{v v' u c:Value} (h:VR G B v v') (z:VR G B u c) (t:aN):SR G (QV G) B (Instr.index t v u) (Instr.index t v' c):=by unfold Instr.index;refine Za (CM z) fun B' k w g l=>?_;obtain rfl:=l;obtain⟨k,i⟩:=k;dsimp only;refine Za (aO t) fun e d r a j=>?_;obtain⟨rfl,_⟩:=j;have f:=(h.mono g).mono a;cases f with
 |agg xs xs' hx hxs=>
  cases d<;>try exact aQ _ _
  dsimp only;split
  .refine Za (aR _) fun q n m b p=>?_;obtain rfl:=p;exact Q9 _ _ (AR.mono b ⟨hx,hxs⟩)
  .exact U1 _ _ _ _|string s=>
  cases d<;>try exact aQ _ _
  dsimp only;split;·exact Zy (.int _ _)
  .exact U1 _ _ _ _|_=>cases d<;>exact aQ _ _
def NZ{v v':Value} (h:VR G B v v') (t:aN) (i:Nat) (w:G.sized t i=true):SR G (QV G) B (Instr.fieldAt t v i) (Instr.fieldAt t v' i):=by
 unfold Instr.fieldAt;refine Za (aO t) fun B' d r n j=>?_;obtain⟨rfl,j⟩:=j;cases d<;>try exact aQ _ _
 rename_i m;dsimp only;cases q:m[i]? with
 |none=>exact aQ _ _|some f=>
  dsimp only;unfold Env.sized at w;rw[j]at w;simp only[q]at w;refine Za (C3 (h.mono n)) fun l a e p g=>?_;unfold fieldPlace sizeOf;refine Za (Q:=fun B a e=>AddrR B a e) ?_ fun k a e c g=>Zy (.ofAddr g);refine Za (Q:=fun _ x y=>x=y/\x≠0) (Za (cX f.type) fun k x y c b=>?_) fun k x y c b=>?_;·obtain⟨rfl,b⟩:=b;rw[b]at w;exact Zy ⟨rfl,by simpa using w⟩
  .obtain⟨rfl,b⟩:=b;rw[q' b,q' b];exact Zy ((g.mono c).add _)
def N4{v v' u I:Value} (h:VR G B v v') (S:VR G B u I) (t:aN):SR G (QV G) B (Instr.indexAt t v u) (Instr.indexAt t v' I):=by
 unfold Instr.indexAt;refine Za (CM S) fun B' k R L M=>?_;obtain rfl:=M;obtain⟨k,i⟩:=k;dsimp only;refine Za (aO t) fun J d O D H=>?_;obtain⟨rfl,H⟩:=H;have F:=(h.mono L).mono D;have r:∀(a a':Addr)(e:Nat)(b:aN)(s:Blk)(j:Bool),AddrR s a a'->SR G (QV G) s (if 0<=i/\i<e then (do Pure.pure (.pointer (some (a.add (i.toNat*(<-sizeOf b))))))else if j=true then unsupported (.noEntry "op/indexAddr.an index out of range at an array of length 0 or 1 (ledger 616)")else boundsPanic k i e .index)
   (if 0<=i/\i<e then (do Pure.pure (.pointer (some (a'.add (i.toNat*(<-sizeOf b))))))else if j=true then unsupported (.noEntry "op/indexAddr.an index out of range at an array of length 0 or 1 (ledger 616)")else boundsPanic k i e .index):=by
  intro a a' e b s j A;split
  .refine Za (aR _) fun K n m z N=>?_;obtain rfl:=N;exact Zy (.ofAddr ((A.mono z).add _))
  .split;·exact nZ Qd _
   .exact U1 _ _ _ _
 cases d<;>try exact aQ _ _
 .rename_i b;cases F<;>try exact aQ _ _
  .refine Za (Q:=fun _ x y=>x=y/\x.1=none) (Zy ⟨rfl,rfl⟩) fun s x y p q=>?_;obtain⟨rfl,q⟩:=q;refine Za (aO t) fun C d4 w g f=>?_;rw[q];exact U1 _ _ _ _
  .rename_i a a' l c A;refine Za (Q:=fun B x y=>x=(some a,l,b)/\y=(some a',l,b)) (Zy ⟨rfl,rfl⟩) fun s x y p q=>?_;obtain⟨rfl,rfl⟩:=q;refine Za (aO t) fun C d4 w g f=>?_;obtain⟨rfl,_⟩:=f;exact r _ _ _ _ _ _ ((A.mono p).mono g)
  .rename_i a P;refine Za (Q:=fun B x y=>x=(some a,0,b)/\y=(some a,0,b)) (Zy ⟨rfl,rfl⟩) fun s x y p q=>?_;obtain⟨rfl,rfl⟩:=q;refine Za (aO t) fun C d4 w g f=>?_;obtain⟨rfl,_⟩:=f;dsimp only;have E:¬(0<=i/\i<((0:Nat):Int)):=Qa
   simp only[q' E];split;·exact nZ Qd _
   .exact U1 _ _ _ _
 .rename_i e b;refine Za (C3 F) fun s a a' p A=>?_;refine Za (Q:=fun B x y=>x=(some a,e,b)/\y=(some a',e,b)) (Zy ⟨rfl,rfl⟩) fun K x y z q=>?_;obtain⟨rfl,rfl⟩:=q;refine Za (aO t) fun C d4 w g f=>?_;obtain⟨rfl,_⟩:=f;exact r _ _ _ _ _ _ ((A.mono z).mono g)
def uH{v v':Value} (h:VR G B v v') (y:Nat) (c:BoundsCode):SR G QE B (Instr.sliceBound v y c) (Instr.sliceBound v' y c):=by
 unfold Instr.sliceBound;refine Za (CM h) fun B' k d b a=>?_;obtain rfl:=a;obtain⟨k,i⟩:=k;dsimp only;split;·exact Zy rfl
 .exact U1 _ _ _ _
def OV(G:Env)(B:Blk):Option Value->Option Value->Prop|some v,some v'=>VR G B v v'|none,none=>True|_,_=>False
abbrev _root_.gM:=Option Value
def OV.mono{B':Blk} (h:B.le B') {o r:gM} (x:OV G B o r):OV G B' o r:=by cases o<;>cases r<;>first|exact x.elim|trivial|exact VR.mono h x
def ZL{γ δ:Type} {j:Blk->γ->δ->Prop} {s e:Sem α} (h:SR G QE B s e) {f:α->Sem γ} {d:α->Sem δ} (q:∀(B':Blk) (a:α),B.le B'->SR G j B' (f a) (d a)):SR G j B (s>>=f) (e>>=d):=Za h fun B' a b g c=>by cases c;exact q B' a g
def HH(f a:gM)(h m:Nat)(c:BoundsCode):OV G B f a->SR G QE B (match f with|some v=>do let l<-Instr.sliceBound v h c;Pure.pure (l,h,m);|none=>do let l<-(Pure.pure 0:Sem Nat);Pure.pure (l,h,m)) (match a with|some v=>do let l<-Instr.sliceBound v h c;Pure.pure (l,h,m);|none=>do let l<-(Pure.pure 0:Sem Nat);Pure.pure (l,h,m)):=by
 intro b;cases f<;>cases a<;>try exact b.elim
 .exact Zy rfl
 .refine ZL (uH b _ _) fun d x e=>?_;exact Zy rfl
def tO{n e l c mx mx':gM} (g:OV G B n e) (f:OV G B l c) (m:OV G B mx mx') (s:Bool) (d k:Nat):SR G QE B (Instr.sliceBounds s d k n l mx) (Instr.sliceBounds s d k e c mx'):=by
 unfold Instr.sliceBounds;cases mx<;>cases mx'<;>try exact m.elim
 .cases l<;>cases c<;>try exact f.elim
  .refine ZL (Zy rfl) fun h x a=>?_;refine ZL (Zy rfl) fun j y b=>?_;exact HH _ _ _ _ _ (OV.mono b (OV.mono a g))
  .refine ZL (Zy rfl) fun h x a=>?_;refine ZL (uH (VR.mono a f) _ _) fun j y b=>?_;exact HH _ _ _ _ _ (OV.mono b (OV.mono a g))
 .refine ZL (uH m _ _) fun h x a=>?_;cases l<;>cases c<;>try exact f.elim
  .exact SR.halt _ (.stuck _) _ trivial
  .refine ZL (uH (VR.mono a f) _ _) fun j y b=>?_;exact HH _ _ _ _ _ (OV.mono b (OV.mono a g))
def uI{v v':Value} (h:VR G B v v') (y:Nat) (c:BoundsCode):SR G (fun _ a b=>a=b/\a<=y) B (Instr.sliceBound v y c) (Instr.sliceBound v' y c):=by
 unfold Instr.sliceBound;refine Za (CM h) fun B' k f e d=>?_;obtain rfl:=d;obtain⟨k,i⟩:=k;dsimp only;split;·exact Zy ⟨rfl,Qa⟩
 .exact U1 _ _ _ _
def HI(k d:gM)(c:BoundsCode):OV G B k d->SR G (fun _ a b=>a=b/\a=(0,0,0)) B (match k with|some v=>do let l<-Instr.sliceBound v 0 c;Pure.pure (l,0,0);|none=>do let l<-(Pure.pure 0:Sem Nat);Pure.pure (l,0,0)) (match d with|some v=>do let l<-Instr.sliceBound v 0 c;Pure.pure (l,0,0);|none=>do let l<-(Pure.pure 0:Sem Nat);Pure.pure (l,0,0)):=by
 intro f;cases k<;>cases d<;>try exact f.elim
 .exact Zy ⟨rfl,rfl⟩
 .refine Za (uI f _ _) fun g x y j e=>?_;obtain⟨rfl,h⟩:=e;exact Zy ⟨rfl,by rw[mY.1 h]⟩
def N5{t h q e mx mx':gM} (k:OV G B t h) (j:OV G B q e) (r:OV G B mx mx') (s:Bool):SR G (fun _ a b=>a=b/\a=(0,0,0)) B (Instr.sliceBounds s 0 0 t q mx) (Instr.sliceBounds s 0 0 h e mx'):=by
 unfold Instr.sliceBounds;cases mx<;>cases mx'<;>try exact r.elim
 .cases q<;>cases e<;>try exact j.elim
  .refine Za (Q:=fun _ a b=>a=b/\a=0) (Zy ⟨rfl,rfl⟩) fun l x n c g=>?_;obtain⟨rfl,rfl⟩:=g;refine Za (Q:=fun _ a b=>a=b/\a=0) (Zy ⟨rfl,rfl⟩) fun m y p d f=>?_;obtain⟨rfl,rfl⟩:=f;exact HI _ _ _ (OV.mono d (OV.mono c k))
  .refine Za (Q:=fun _ a b=>a=b/\a=0) (Zy ⟨rfl,rfl⟩) fun l x n c g=>?_;obtain⟨rfl,rfl⟩:=g;refine Za (uI (VR.mono c j) _ _) fun m y p d f=>?_;obtain⟨rfl,f⟩:=f;obtain rfl:=mY.1 f;exact HI _ _ _ (OV.mono d (OV.mono c k))
 .refine Za (uI r _ _) fun l x n c g=>?_;obtain⟨rfl,g⟩:=g;obtain rfl:=mY.1 g;cases q<;>cases e<;>try exact j.elim
  .exact SR.halt _ (.stuck _) _ trivial
  .refine Za (uI (VR.mono c j) _ _) fun m y p d f=>?_;obtain⟨rfl,f⟩:=f;obtain rfl:=mY.1 f;exact HI _ _ _ (OV.mono d (OV.mono c k))
def OA(B:Blk):Option Addr->Option Addr->Prop|some v,some v'=>AddrR B v v'|none,none=>True|_,_=>False
abbrev _root_.i':=Option Addr
def Zg{a a':i'} (h:OA B a a') (l c:Nat):VR G B (.slice a l c) (.slice a' l c):=by cases a<;>cases a'<;>first|exact h.elim|exact .nilSlice _ _|exact .slice _ _ _ _ h
def N7{x A:Value} {O w N u mx mx':gM} (h:VR G B x A) (j:OV G B O w) (g:OV G B N u) (M:OV G B mx mx') (t:aN):SR G (QV G) B (Instr.slice t x O N mx) (Instr.slice t A w u mx'):=by
 unfold Instr.slice;refine Za (aO t) fun B' d C z r=>?_;obtain⟨rfl,_⟩:=r;replace h:=h.mono z;replace j:=OV.mono z j;replace g:=OV.mono z g;replace M:=OV.mono z M;cases d<;>try exact SR.halt _ (.stuck _) _ trivial
 .
  cases h<;>try exact SR.halt _ (.stuck _) _ trivial
  rename_i s;cases mx<;>cases mx'<;>(try exact M.elim);·refine ZL (tO (mx:=none) (mx':=none) j g trivial _ _ _) fun q x b=>?_;obtain⟨l,h,m⟩:=x;exact Zy (.string _)
  .exact SR.halt _ (.stuck _) _ trivial
 .
  rename_i H;cases h;case nilPtr=>
   exact Za (Q:=fun B a p=>AddrR B a p) (vN .nilPtr) fun q a p b f=>by
    refine Za (aO _) fun E d C c r=>?_;obtain⟨rfl,_⟩:=r;cases d<;>try exact SR.halt _ (.stuck _) _ trivial
    refine ZL (tO (OV.mono c (OV.mono b j)) (OV.mono c (OV.mono b g)) (OV.mono c (OV.mono b M)) _ _ _) fun F x k=>?_;obtain⟨l,h,m⟩:=x;refine ZL (aR _) fun y n e=>?_;have f:=((f.mono c).mono k).mono e;refine Zy (Zg ?_ _ _);split;·exact f
    .exact f.add _
  case ptr a0 a0' ha0=>
   exact Za (Q:=fun B a p=>AddrR B a p) (vN (.ptr _ _ ha0)) fun q a p b f=>by
    refine Za (aO _) fun E d C c r=>?_;obtain⟨rfl,_⟩:=r;cases d<;>try exact SR.halt _ (.stuck _) _ trivial
    refine ZL (tO (OV.mono c (OV.mono b j)) (OV.mono c (OV.mono b g)) (OV.mono c (OV.mono b M)) _ _ _) fun F x k=>?_;obtain⟨l,h,m⟩:=x;refine ZL (aR _) fun y n e=>?_;have f:=((f.mono c).mono k).mono e;refine Zy (Zg ?_ _ _);split;·exact f
    .exact f.add _
  all_goals exact SR.halt _ (.stuck _) _ trivial
 .
  rename_i D;cases h<;>try exact SR.halt _ (.stuck _) _ trivial
  .refine ZL (tO j g M _ _ _) fun q x b=>?_;obtain⟨l,h,m⟩:=x;refine ZL (aR _) fun y n e=>?_;refine Zy (Zg ?_ _ _);split<;>trivial
  .rename_i a p L I f;refine ZL (tO j g M _ _ _) fun q x b=>?_;obtain⟨l,h,m⟩:=x;refine ZL (aR _) fun y n e=>?_;have f:=(f.mono b).mono e;refine Zy (Zg ?_ _ _);split;·exact f
   .exact f.add _
  .rename_i a K;refine Za (N5 j g M _) fun q x A b J=>?_;obtain⟨rfl,rfl⟩:=J;refine ZL (aR _) fun y n e=>?_;exact Zy (.slice0 a K)
def N8{x r:Value} {lo e hi c mx C:gM} (h:VR G B x r) (k:OV G B lo e) (j:OV G B hi c) (D:OV G B mx C) (t:aN):SR G (QV G) B (Instr.sliceAt t x lo hi mx) (Instr.sliceAt t r e c C):=by
 unfold Instr.sliceAt;refine Za (aO t) fun B' d A f s=>?_;obtain⟨rfl,_⟩:=s;replace h:=h.mono f;replace k:=OV.mono f k;replace j:=OV.mono f j;replace D:=OV.mono f D;cases d<;>try exact N7 h k j D t
 refine Za (C3 h) fun u a z b g=>?_;refine ZL (tO (OV.mono b k) (OV.mono b j) (OV.mono b D) _ _ _) fun w x p=>?_;obtain⟨l,h,m⟩:=x;refine ZL (aR _) fun y n q=>?_;have g:=(g.mono p).mono q;refine Zy (Zg ?_ _ _);split;·exact g
 .exact g.add _
end
section
variable {G:Env} {α β:Type} {Q:Blk->α->β->Prop} {B:Blk}
def IF(f:Nat):∀{vs vs':List (Value×Nat)} {cs a:bJ},AR G B cs a->vs.map (·.2)=vs'.map (·.2)->(∀(i:Nat)(v v':Value×Nat),vs[i]?=some v->vs'[i]?=some v'->VR G B v.1 v'.1)->AR G B (vs.foldl (fun cs x=>cs.setIfInBounds (f+x.2) x.1) cs) (vs'.foldl (fun cs x=>cs.setIfInBounds (f+x.2) x.1) a)|[],[],cs,a,h,_,_=>h|[],v'::vs',_,_,_,h,_=>by simp at h|v::vs,[],_,_,_,h,_=>by simp at h|(v,j)::vs,(v',j')::vs',cs,a,h,b,hv=>by simp only[M1,eT]at b;obtain⟨rfl,b⟩:=b;simp only[List.foldl_cons];exact IF f (vs:=vs) (vs':=vs') (h.set _ (hv 0 (v,j) (v',j) rfl rfl)) b fun i u e d c=>hv (i+1) u e (by simpa using d) (by simpa using c)
inductive PR (G:Env)(B:Blk):List (Nat×Value)->List (Nat×Value)->Prop|nil:PR G B [] []|cons (i:Nat) (v v':Value) (vs vs':List (Nat×Value)) (h:VR G B v v') (hs:PR G B vs vs'):PR G B ((i,v)::vs) ((i,v')::vs')
def PR.mono{B':Blk} (hB:B.le B') {C r:List (Nat×Value)} (h:PR G B C r):PR G B' C r:=by induction h with|nil=>exact .nil|cons i v v' C r h hs ih=>exact .cons i v v' C r (h.mono hB) ih
def fill_r(a:Nat->Option (Nat×Nat)):∀{vs vs':List (Nat×Value)} {cs b:bJ},AR G B cs b->PR G B vs vs'->(Instr.fill a cs vs=none/\Instr.fill a b vs'=none)∨∃r j,Instr.fill a cs vs=some r/\Instr.fill a b vs'=some j/\AR G B r j|_,_,cs,b,h,.nil=>.inr ⟨cs,b,rfl,rfl,h⟩|_,_,cs,b,h,.cons i v v' vs vs' hv hs=>by have d:=hv.cells;unfold Instr.fill;cases n:a i with|none=>exact .inl ⟨rfl,rfl⟩|some os=>
   obtain⟨f,k⟩:=os;dsimp only;rw[<-d.size,<-h.size];split;·exact .inl ⟨rfl,rfl⟩
   .rw[<-Array.foldl_toList,<-Array.foldl_toList];refine fill_r a (IF f h ?_ fun i u p g c=>?_) hs;·simp[d.size]
    .simp only[Array.toList_zipIdx,List.getElem?_zipIdx,nY,m']at g c;obtain⟨x,l,rfl⟩:=e'.1 g;obtain⟨m,e,rfl⟩:=e'.1 c;exact d.at_ i x m l e
def Y1{v:Value} (h:bG 8 v=true):AR G B v.cells v.cells:=(VR.closed 8 v h).cells
def IG{γ δ:Type} (f:γ->Sem δ) (h:∀(B:Blk) x,SR G QE B (f x) (f x)):∀(xs:List γ) (B:Blk),SR G QE B (xs.mapM f) (xs.mapM f)|[],B=>by simp only[iH];exact Zy rfl|x::xs,B=>by simp only[iG];refine ZL (h B x) fun c a e=>?_;refine ZL (IG f h xs c) fun d b g=>?_;exact Zy rfl
def N9{t:aN} {ps k:Array (Nat×Value)} (I:G.zero t=true) (h:PR G B ps.toList k.toList):SR G (QV G) B (Instr.build t ps) (Instr.build t k):=by
 unfold Instr.build;refine Za (XA I) fun D z H w s=>?_;obtain⟨_,rfl,j⟩:=s;dsimp only;refine Za (aO t) fun E d F y A=>?_;obtain⟨rfl,_⟩:=A;have u:=(h.mono w).mono y;cases d<;>try exact SR.halt _ (.stuck _) _ trivial
 .refine ZL (aR _) fun m n g=>?_;rcases fill_r (fun i=>some (i*n,n)) (Y1 j) (u.mono g)with⟨e,f⟩|⟨r,C,e,f,q⟩;·rw[e,f];exact SR.halt _ (.stuck _) _ trivial
  .rw[e,f];exact Zy (Zf q)
 .rename_i l;refine ZL (α:=Array (Nat×Nat)) ?_ fun m c g=>?_
  .simp only[pW];refine Za (Q:=QE) (IG _ (fun B x=>?_) _ _) fun m a b g p=>by cases p;exact Zy rfl
   exact ZL (aR _) fun m n g=>Zy rfl
  .rcases fill_r (c[·]?) (Y1 j) (u.mono g)with⟨e,f⟩|⟨r,C,e,f,q⟩;·rw[e,f];exact SR.halt _ (.stuck _) _ trivial
   .rw[e,f];exact Zy (Zf q)
def N'{z:bJ} (b:AR G B z z)(a:VR G B (default:Value) default)(i:Nat):VR G B z[i]! z[i]!:=by rw[getElem!_def];cases h:z[i]? with|none=>exact a|some v=>exact b.at_ i v v h h
def OB:VR G B (default:Value) default:=VR.bool false
def oA{z:bJ} (d:AR G B z z) (n:Nat):AR G B ((Array.range n).map (fun i=>z[i%z.size]!)) ((Array.range n).map (fun i=>z[i%z.size]!)):=by refine⟨rfl,fun i v v' b a=>?_⟩;rw[b]at a;cases a;rw[bD]at b;obtain⟨x,c,rfl⟩:=e'.1 b;exact N' d OB _
def OC{t:aN} {c:Nat} {ps j:Array (Nat×Value)} (L:G.zeroElem t=true) (h:PR G B ps.toList j.toList):SR G (QV G) B (Instr.buildSlice t c ps) (Instr.buildSlice t c j):=by
 unfold Instr.buildSlice;refine Za (aO t) fun F d I C s=>?_;obtain⟨rfl,s⟩:=s;cases d<;>try exact SR.halt _ (.stuck _) _ trivial
 rename_i e;unfold Env.zeroElem at L;rw[s]at L;dsimp only at L |-;refine ZL (aR _) fun A n D=>?_;split;·exact SR.halt _ (.unsupported _) _ trivial
 .have m:∀(f:Blk)(z:bJ),A.le f->AR G f z z->SR G (QV G) f (match Instr.fill (fun i=>some (i*n,n)) ((Array.range (c*n)).map (fun i=>z[i%z.size]!)) ps.toList with|some cells=>do Pure.pure (.slice (some (<-newRow e cells)) c c);|_=>stuck "buildSlice: a part of the wrong size")
    (match Instr.fill (fun i=>some (i*n,n)) ((Array.range (c*n)).map (fun i=>z[i%z.size]!)) j.toList with|some cells=>do Pure.pure (.slice (some (<-newRow e cells)) c c);|_=>stuck "buildSlice: a part of the wrong size"):=by
   intro f z k L;rcases fill_r (fun i=>some (i*n,n)) (oA L _) (((h.mono C).mono D).mono k)with⟨p,q⟩|⟨r,J,p,q,E⟩;·rw[p,q];exact SR.halt _ (.stuck _) _ trivial
   .rw[p,q];exact Za (X7 e E) fun x a H y l=>Zy (.slice _ _ _ _ l)
  split;·refine Za (Q:=fun B a b=>a=b/\AR G B a a) (Zy ⟨rfl,AR.empty⟩) fun f a b k g=>?_;obtain⟨rfl,l⟩:=g;exact m f a k l
  .refine Za (XA L) fun f z K k w=>?_;obtain⟨_,rfl,u⟩:=w;refine Za (Q:=fun B a b=>a=b/\AR G B a a) (Zy ⟨rfl,Y1 u⟩) fun x a b y g=>?_;obtain⟨rfl,l⟩:=g;exact m x a (Blk.le_trans k y) l
def OD{t:aN} {l l' c A:Value} (S:G.zeroElem t=true) (M:VR G B l l') (J:VR G B c A):SR G (QV G) B (Instr.makeSlice t l c) (Instr.makeSlice t l' A):=by
 unfold Instr.makeSlice;refine Za (aO t) fun O d U D s=>?_;obtain⟨rfl,s⟩:=s;cases d<;>try exact SR.halt _ (.stuck _) _ trivial
 rename_i g;unfold Env.zeroElem at S;rw[s]at S;dsimp only at S |-;refine ZL (X9 (M.mono D)) fun P N I=>?_;refine ZL (X9 ((J.mono D).mono I)) fun y H E=>?_;refine Za (cX g) fun p i Y r L=>?_;obtain⟨rfl,_⟩:=L;have m:∀(q:Blk) (e:RuntimeError) (f C:Unit->Sem Value),(match e with|.bounds ..|.error _|.plain _|.nilDeref=>True|_=>False)->SR G (QV G) q (runtimePanic e>>=f) (runtimePanic e>>=C):=fun q e f C K=>Za (Q:=fun _ _ _=>False) (dE K) fun _ _ _ _ h=>h.elim;split
 .split;·exact m _ _ _ _ trivial
  .split;·exact m _ _ _ _ trivial
   .refine ZL (W8 _) fun q x V=>?_;split<;>exact m _ _ _ _ trivial
 .refine Za (vM _) fun R _ _ W _=>?_;refine ZL (aR _) fun T n X=>?_;split;·refine Za (Q:=fun B a b=>a=b/\AR G B a a) (Zy ⟨rfl,AR.empty⟩) fun y a b E k=>?_;obtain⟨rfl,j⟩:=k;exact Za (X7 g (oA j _)) fun p a F r j=>Zy (.slice _ _ _ _ j)
  .refine Za (XA S) fun y z Z E w=>?_;obtain⟨_,rfl,u⟩:=w;refine Za (Q:=fun B a b=>a=b/\AR G B a a) (Zy ⟨rfl,Y1 u⟩) fun p a b r k=>?_;obtain⟨rfl,j⟩:=k;exact Za (X7 g (oA j _)) fun p a F r j=>Zy (.slice _ _ _ _ j)
def vO{v v':Value} (h:VR G B v v'):SR G (fun _ n m=>n=m/\∀b l c,v=.slice b l c->n=l) B (Builtin.lenOf v) (Builtin.lenOf v'):=by cases h<;>first|exact Zy ⟨rfl,fun b l c h=>by cases h;rfl⟩|exact SR.halt _ (.stuck _) _ trivial|exact Zy ⟨rfl,fun b l c h=>by cases h⟩
def tJ{v v':Value} (h:VR G B v v') (d n:Nat) (g:∀b l c,v=.slice b l c->n<=l):SR G (QA G) B (Builtin.firstCells d n v) (Builtin.firstCells d n v'):=by cases h with|slice0 a hz=>obtain rfl:=mY.1 (g _ _ _ rfl);unfold Builtin.firstCells;rw[gD];exact Zy AR.empty|slice a a' l c ha=>exact p6 ha _|nilSlice l c=>exact Zy AR.empty|string s=>refine Zy ⟨rfl,fun i v v' f e=>?_⟩;rw[f]at e;cases e;rw[bD]at f;obtain⟨x,j,rfl⟩:=e'.1 f;exact .int _ _|_=>exact SR.halt _ (.stuck _) _ trivial
def IH{z:bJ} (b:AR G B z z) (n:Nat):AR G B (Builtin.zeroCells z n) (Builtin.zeroCells z n):=oA b _
def AR.arg{xs xs':bJ} (h:AR G B xs xs')(i:Nat):OV G B xs[i]? xs'[i]?:=by cases a:xs[i]? with|none=>rw[h.none a];trivial|some v=>obtain⟨v',b,c⟩:=h.get a;rw[b];exact c
def OS(G:Env)(B:Blk)(b d:i')(l c:Nat):Prop:=OA B b d∨(G.z0=true/\b=d/\l=0/\c=0)
def VR.slice_or{v v':Value} (h:VR G B v v'):(∀b l c,v≠.slice b l c)∨∃b d l c,v=.slice b l c/\v'=.slice d l c/\OS G B b d l c:=by cases h with|nilSlice l c=>exact .inr ⟨none,none,l,c,rfl,rfl,.inl trivial⟩|slice a a' l c ha=>exact .inr ⟨some a,some a',l,c,rfl,rfl,.inl ha⟩|slice0 a hz=>exact .inr ⟨some a,some a,0,0,rfl,rfl,.inr ⟨hz,rfl,rfl,rfl⟩⟩|_=>exact .inl Qd
def OA.mono{B':Blk} (hB:B.le B') {a a':i'} (h:OA B a a'):OA B' a a':=by cases a<;>cases a'<;>first|exact h.elim|trivial|exact AddrR.mono hB h
def OS.mono{B':Blk} (hB:B.le B') {a a':i'} {l c:Nat} (h:OS G B a a' l c):OS G B' a a' l c:=h.imp (OA.mono hB) id
def vP{v v':Value} (h:VR G B v v') (d:Nat):SR G (fun _ c f=>c=#[]/\f=#[]) B (Builtin.firstCells d 0 v) (Builtin.firstCells d 0 v'):=by cases h with
 |slice a a' l c ha=>unfold Builtin.firstCells;rw[gD];exact Zy ⟨rfl,rfl⟩|slice0 a hz=>unfold Builtin.firstCells;rw[gD];exact Zy ⟨rfl,rfl⟩|nilSlice l c=>exact Zy ⟨rfl,rfl⟩|string s=>
  have e:((s.extract 0 0).data.map fun b=>Value.int .u8 b.toNat)=#[]:=by apply yV;simp
  unfold Builtin.firstCells;simp only[e];exact Zy ⟨rfl,rfl⟩|_=>exact SR.halt _ (.stuck _) _ trivial
def oB(e:RuntimeError) (b:match e with|.bounds ..|.error _|.plain _|.nilDeref=>True|_=>False) {f:α->Sem β} {γ:Type} {a:α->Sem γ} {Q:Blk->β->γ->Prop}:SR G Q B (runtimePanic e>>=f) (runtimePanic e>>=a):=Za (Q:=fun _ _ _=>False) (dE b) fun _ _ _ _ h=>h.elim
def OE(P:aA)(a:Addr)(n:Nat)(l:World):∃b,(Builtin.holdsCells a n).run P l=.ok b l:=by unfold Builtin.holdsCells;cases h:l.shape? a.block<;>simp[h]
def II(P:aA)(e f n:Nat)(base:i')(x:Value)(l:World):∃b,(Builtin.mayShare e f n base x).run P l=.ok b l:=by
 have j:∀a n,∃b,(Builtin.holdsCells a n).run P l=.ok b l:=fun a n=>OE P a n l;unfold Builtin.mayShare;have g:∀{there:Bool} (o:i'),∃b,(do
   if !there then return true
   match x with|.slice (some b) _ _=>do Pure.pure (!(<-Builtin.holdsCells b (n*e))||o.any (fun c=>c.block==b.block));|_=>Pure.pure false:Sem Bool).run P l=Result.ok b l:=by
  intro there o;cases there;·exact⟨_,rfl⟩
  .cases x<;>try exact⟨_,rfl⟩
   rename_i a _ _;cases a with|none=>exact⟨_,rfl⟩|some b=>obtain⟨c,h⟩:=j b (n*e);simp[h]
 cases base with
 |none=>exact g (there:=true) none|some a=>obtain⟨d,k⟩:=j a (f*e);obtain⟨c,h⟩:=g (there:=d&&!(l.frozen? (a.add (f / 2*e)))) (some a);refine⟨c,Eq.trans ?_ h⟩;simp only[aD,k,aI,run_frozen,aP];rfl
abbrev _root_.cQ:=Array TypeId
def OF{ts:cQ} {t:aN} {xs xs':bJ} (S:∀s,ts[0]?=some s->G.zeroElem s=true) (aI:∀s k,ts[1]?=some s->G.P.underlying s≠some (.int k)) (h:AR G B xs xs'):SR G (QV G) B (Builtin.append_ ts t xs) (Builtin.append_ ts t xs'):=by unfold Builtin.append_;have y:=h.arg 0;have p:=h.arg 1;generalize xs[0]?=x0 at y |-;generalize xs'[0]?=aJ at y |-;generalize xs[1]?=x1 at p |-;generalize xs'[1]?=aK at p |-;cases hs:ts[0]? with
 |none=>exact SR.halt _ (.stuck _) _ trivial|some sT=>
 have S:=S sT hs;cases x0<;>cases aJ<;>(try exact y.elim);·exact SR.halt _ (.stuck _) _ trivial
 cases x1<;>cases aK<;>(try exact p.elim);·exact SR.halt _ (.stuck _) _ trivial
 rename_i s s' x x';change VR G B s s' at y;change VR G B x x' at p;dsimp only;refine Za (aO sT) fun B1 d d' h1 hd=>?_;obtain⟨rfl,hd⟩:=hd;cases d<;>try exact SR.halt _ (.stuck _) _ trivial
 rename_i f;unfold Env.zeroElem at S;rw[hd]at S;dsimp only at S |-;replace y:=y.mono h1;replace p:=p.mono h1;rcases y.slice_or with aH|⟨g,A,K,aL,rfl,rfl,q⟩;·cases y<;>first|exact absurd rfl (aH _ _ _)|exact SR.halt _ (.stuck _) _ trivial
 dsimp only;refine ZL (aR _) fun B2 L h2=>?_;replace q:=OS.mono h2 q;replace p:=p.mono h2;replace y:=y.mono h2;cases aD:ts[1]?;case none=>
  refine Za (Q:=fun _ a b=>a=false/\b=false) (Zy ⟨rfl,rfl⟩) fun B3 z z' X u=>?_;obtain⟨rfl,rfl⟩:=u;rw[q' Qd,q' Qd];refine Za (vO (p.mono X)) fun B4 n n' h4 T=>?_;obtain⟨rfl,H⟩:=T;have j:=Blk.le_trans X h4;replace q:=OS.mono j q;split
  .rename_i U;rcases q with q|⟨V,rfl,rfl,rfl⟩
   .refine Za (Q:=QA G) ?_ fun M c I w E=>?_;·rw[Zde Qe,Zde Qe];exact tJ (p.mono j) _ _ fun b l c h=>U0 (H b l c h)
    have m:=OA.mono w q;cases g<;>cases A<;>try exact m.elim
    .exact Zy (Zg m _ _)
    .refine Za (nA 0 (AddrR.add m _) E.list) fun M _ _ w _=>?_;exact Zy (Zg (OA.mono w (a:=some _) (a':=some _) m) _ _)
   .obtain rfl:n=0:=Qa
    refine Za (Q:=fun _ c I=>c=#[]/\I=#[]) ?_ fun M c I w E=>?_;·rw[Zde Qe,Zde Qe];exact vP (p.mono j) _
    obtain⟨rfl,rfl⟩:=E;cases g with
    |none=>exact Zy (.nilSlice _ _)|some a=>exact Zy (.slice0 a V)
  .refine Za (cX f) fun M i Y w F=>?_;obtain⟨rfl,_⟩:=F;split;·exact oB _ trivial
   .refine Za (cX f) fun B6 i Y h6 F=>?_;obtain⟨rfl,_⟩:=F;split
    .refine SR.dead _ _ _ fun l _=>?_;obtain⟨b,q⟩:=II G.P L K n g x l;refine⟨.unsupported (.resourceLimit "append: a slice or a string whose bytes no memory bears"),l,?_,trivial,fun _ _=>rfl⟩;cases b<;>simp[q]
    .refine ZL (W8 _) fun B7 J h7=>?_;refine Za (cX f) fun B8 i Y h8 F=>?_;obtain⟨rfl,_⟩:=F;refine Za (vM _) fun B9 _ _ h9 _=>?_;have D:=Blk.le_trans j (Blk.le_trans w (Blk.le_trans h6 (Blk.le_trans h7 (Blk.le_trans h8 h9))));refine Za (tJ (y.mono D) _ _ fun b l c h=>(by cases h;exact sW _)) fun Z c I N E=>?_;refine Za (Q:=QA G) ?_ fun aA e e' O he=>?_;·rw[Zde Qe,Zde Qe];exact tJ ((p.mono D).mono N) _ _ fun b l c h=>U0 (H b l c h)
     refine Za (XA S) fun aB z z' C u=>?_;obtain⟨_,rfl,W⟩:=u;refine Za (X7 f ((AR.append ((E.mono O).mono C) (he.mono C)).append (IH (Y1 W) _))) fun aC r r' aE hr=>?_;exact Zy (.slice _ _ _ _ hr)
 case some xT=>
  refine Za (aO xT) fun aM d d' aF R=>?_;obtain⟨rfl,R⟩:=R;refine Za (Q:=fun _ a b=>a=false/\b=false) (Zy ?_) fun B3 z z' aG u=>?_;·cases d<;>first|exact⟨rfl,rfl⟩|exact absurd R (aI _ _ aD)
  have X:=Blk.le_trans aF aG;obtain⟨rfl,rfl⟩:=u;rw[q' Qd,q' Qd];refine Za (vO (p.mono X)) fun B4 n n' h4 T=>?_;obtain⟨rfl,H⟩:=T;have j:=Blk.le_trans X h4;replace q:=OS.mono j q;split
  .rename_i U;rcases q with q|⟨V,rfl,rfl,rfl⟩
   .refine Za (Q:=QA G) ?_ fun M c I w E=>?_;·rw[Zde Qe,Zde Qe];exact tJ (p.mono j) _ _ fun b l c h=>U0 (H b l c h)
    have m:=OA.mono w q;cases g<;>cases A<;>try exact m.elim
    .exact Zy (Zg m _ _)
    .refine Za (nA 0 (AddrR.add m _) E.list) fun M _ _ w _=>?_;exact Zy (Zg (OA.mono w (a:=some _) (a':=some _) m) _ _)
   .obtain rfl:n=0:=Qa
    refine Za (Q:=fun _ c I=>c=#[]/\I=#[]) ?_ fun M c I w E=>?_;·rw[Zde Qe,Zde Qe];exact vP (p.mono j) _
    obtain⟨rfl,rfl⟩:=E;cases g with
    |none=>exact Zy (.nilSlice _ _)|some a=>exact Zy (.slice0 a V)
  .refine Za (cX f) fun M i Y w F=>?_;obtain⟨rfl,_⟩:=F;split;·exact oB _ trivial
   .refine Za (cX f) fun B6 i Y h6 F=>?_;obtain⟨rfl,_⟩:=F;split
    .refine SR.dead _ _ _ fun l _=>?_;obtain⟨b,q⟩:=II G.P L K n g x l;refine⟨.unsupported (.resourceLimit "append: a slice or a string whose bytes no memory bears"),l,?_,trivial,fun _ _=>rfl⟩;cases b<;>simp[q]
    .refine ZL (W8 _) fun B7 J h7=>?_;refine Za (cX f) fun B8 i Y h8 F=>?_;obtain⟨rfl,_⟩:=F;refine Za (vM _) fun B9 _ _ h9 _=>?_;have D:=Blk.le_trans j (Blk.le_trans w (Blk.le_trans h6 (Blk.le_trans h7 (Blk.le_trans h8 h9))));refine Za (tJ (y.mono D) _ _ fun b l c h=>(by cases h;exact sW _)) fun Z c I N E=>?_;refine Za (Q:=QA G) ?_ fun aA e e' O he=>?_;·rw[Zde Qe,Zde Qe];exact tJ ((p.mono D).mono N) _ _ fun b l c h=>U0 (H b l c h)
     refine Za (XA S) fun aB z z' C u=>?_;obtain⟨_,rfl,W⟩:=u;refine Za (X7 f ((AR.append ((E.mono O).mono C) (he.mono C)).append (IH (Y1 W) _))) fun aC r r' aE hr=>?_;exact Zy (.slice _ _ _ _ hr)
def fQ(n:Int):VR G B (goInt n) (goInt n):=.int _ _
def OG{x:cQ} {t:aN} {xs xs':bJ} (k:∀s d e,x[0]?=some s->G.P.underlying s≠some (.chan d e)) (h:AR G B xs xs'):SR G (QV G) B (Builtin.len_ x t xs) (Builtin.len_ x t xs'):=by unfold Builtin.len_;have a:=h.arg 0;generalize xs[0]?=n at a |-;generalize xs'[0]?=g at a |-;cases l:x[0]? with
  |none=>exact SR.halt _ (.stuck _) _ trivial|some sT=>
  cases n<;>cases g<;>(try exact a.elim);· exact SR.halt _ (.stuck _) _ trivial
  rename_i s m;change VR G B s m at a;refine Za (aO sT) fun p d r u c=>?_;obtain⟨rfl,c⟩:=c;have b:=fun d e=>k sT d e l;cases d<;>cases a<;>first|(exfalso;exact b _ _ c;done)|exact Zy (fQ _)|exact SR.halt _ (.stuck _) _ trivial| (refine Za (aO _) fun q d2 j w f => ?_;obtain⟨rfl,_⟩:=f;cases d2<;>first|exact Zy (fQ _)|exact SR.halt _ (.stuck _) _ trivial)
def OH{x:cQ} {t:aN} {xs xs':bJ} (k:∀s d e,x[0]?=some s->G.P.underlying s≠some (.chan d e)) (h:AR G B xs xs'):SR G (QV G) B (Builtin.cap_ x t xs) (Builtin.cap_ x t xs'):=by unfold Builtin.cap_;have a:=h.arg 0;generalize xs[0]?=n at a |-;generalize xs'[0]?=g at a |-;cases l:x[0]? with
  |none=>exact SR.halt _ (.stuck _) _ trivial|some sT=>
  cases n<;>cases g<;>(try exact a.elim);· exact SR.halt _ (.stuck _) _ trivial
  rename_i s m;change VR G B s m at a;refine Za (aO sT) fun p d r u c=>?_;obtain⟨rfl,c⟩:=c;have b:=fun d e=>k sT d e l;cases d<;>cases a<;>first|(exfalso;exact b _ _ c;done)|exact Zy (fQ _)|exact SR.halt _ (.stuck _) _ trivial| (refine Za (aO _) fun q d2 j w f => ?_;obtain⟨rfl,_⟩:=f;cases d2<;>first|exact Zy (fQ _)|exact SR.halt _ (.stuck _) _ trivial)
end
section
variable {G:Env} {α β:Type} {Q:Blk->α->β->Prop} {B:Blk}
def tK(c:BinOp)(k:IntKind)(a b:Int)(s:Sem Value)(e:s=Op.intArith c k a b∨s=Op.intDiv c k a b∨s=Op.intBits c k a b∨s=Op.intCmp c a b∨∃d,s=Op.shift c k a d b):SR G (QV G) B s s:=by
 rcases e with rfl|rfl|rfl|rfl|⟨d,rfl⟩;·unfold Op.intArith;split<;>first|exact Zy (.int _ _)|exact SR.halt _ (.stuck _) _ trivial
 .unfold Op.intDiv;split;·exact dE trivial
  .split<;>first|exact Zy (.int _ _)|exact SR.halt _ (.stuck _) _ trivial
 .unfold Op.intBits;dsimp only;split<;>first|exact Zy (.int _ _)|exact SR.halt _ (.stuck _) _ trivial
 .unfold Op.intCmp;split<;>first|exact Zy (.bool _)|exact SR.halt _ (.stuck _) _ trivial
 .unfold Op.shift;split;·exact dE trivial
  .dsimp only;split<;>first|exact Zy (.int _ _)|exact SR.halt _ (.stuck _) _ trivial
def p8(c:BinOp) (a b:ByteArray):SR G (QV G) B (Op.stringOp c a b) (Op.stringOp c a b):=by
 unfold Op.stringOp;dsimp only;split
 .split;·exact SR.halt _ (.unsupported _) _ trivial
  .exact Zy (.string _)
 all_goals first|exact Zy (.bool _)|exact SR.halt _ (.stuck _) _ trivial
def OI(a:UnOp) {v v':Value} (h:VR G B v v'):SR G (QV G) B (Op.unary a v) (Op.unary a v'):=by unfold Op.unary;cases a<;>cases h<;>first|exact SR.halt _ (.stuck _) _ trivial|exact SR.halt _ (.unsupported _) _ trivial|exact Zy (.bool _)|exact tK _ _ _ _ _ (.inl rfl)|exact tK _ _ _ _ _ (.inr (.inr (.inl rfl)))
def vQ{γ σ:Type} (f a:γ->σ->Sem (ForInStep σ)):∀(xs:List γ) (s:σ) {B:Blk},(∀(B':Blk) x s,B.le B'->SR G QE B' (f x s) (a x s))->SR G QE B (forIn xs s f) (forIn xs s a)|[],s,B,h=>by simp only[pX];exact Zy rfl|x::xs,s,B,h=>by simp only[pY];refine ZL (h B x s (Blk.le_refl _)) fun e r c=>?_;cases r with|done s=>exact Zy rfl|yield s=>exact vQ f a xs s fun b x s d=>h b x s (Blk.le_trans c d)
def OJ{γ σ:Type} (xs:Array γ) (s:σ) (f a:γ->σ->Sem (ForInStep σ)) (h:∀(B':Blk) x s,B.le B'->SR G QE B' (f x s) (a x s)):SR G QE B (forIn xs s f) (forIn xs s a):=by rw[<-mL,<-mL];exact vQ f a _ _ h
def IJ{γ σ:Type} (f a:γ->σ->Sem (ForInStep σ)):∀(xs:List γ) (s:σ) {B:Blk},(∀(B':Blk) x s,x∈xs->B.le B'->SR G QE B' (f x s) (a x s))->SR G QE B (forIn xs s f) (forIn xs s a)|[],s,B,h=>by simp only[pX];exact Zy rfl|x::xs,s,B,h=>by simp only[pY];refine ZL (h B x s Qd (Blk.le_refl _)) fun g r c=>?_;cases r with|done s=>exact Zy rfl|yield s=>exact IJ f a xs s fun b x s e d=>h b x s (by simp[e]) (Blk.le_trans c d)
def OK{γ σ:Type} (xs:Array γ) (s:σ) (f a:γ->σ->Sem (ForInStep σ)) (h:∀(B':Blk) x s,x∈xs->B.le B'->SR G QE B' (f x s) (a x s)):SR G QE B (forIn xs s f) (forIn xs s a):=by rw[<-mL,<-mL];exact IJ f a _ _ fun B' x s b=>h B' x s (by simpa using b)
def y8{σ:Type} (n:Nat) (s:σ) (f a:Nat->σ->Sem (ForInStep σ)) (h:∀(B':Blk) x s,B.le B'->SR G QE B' (f x s) (a x s)):SR G QE B (forIn [0:n] s f) (forIn [0:n] s a):=by rw[IA,IA];exact vQ f a _ _ h
def y9{r c:Nat} (h:B r c):SR G (fun _ a b=>a=none/\b=none) B (viewAt r) (viewAt c):=by
 unfold viewAt;refine ZL (fB h) fun f s d=>?_;split;·exact Zy ⟨rfl,rfl⟩
 .refine Za (iJ (d _ _ h)) fun g o k j e=>?_;cases e<;>exact Zy ⟨rfl,rfl⟩
def vR{a f:Addr} (h:AddrR B a f):SR G QU B (noView a) (noView f):=by unfold noView;cases h with|mk b b' o s hb=>refine Za (y9 hb) fun d x y e c=>?_;obtain⟨rfl,rfl⟩:=c;exact Zy trivial
def uJ{a b:Addr} (c:G.sh=false) (h:AddrR B a b):SR G QE B (frozen a) (frozen b):=SR.mono (NM h) fun _ _ _ _ x=>x c
def IK{a g:Addr} (j:G.sh=false) (h:AddrR B a g):SR G QE B (stringish a) (stringish g):=by
 unfold stringish;refine ZL (uJ j h) fun e x c=>?_;split;·exact Zy rfl
 .cases h with|mk b b' o s hb=>
   refine ZL (fB (c _ _ hb)) fun f s d=>?_;split;·exact uJ j (.mk _ _ _ _ (d _ _ (c _ _ hb)))
   .exact Zy rfl
def OL{a t b r:Addr} (u:G.sh=false) (q:AddrR B a t) (p:AddrR B b r):SR G QE B (mayBeOne a b) (mayBeOne t r):=by
 unfold mayBeOne;have c:∀(B':Blk) (x f:Addr),AddrR B' x f->SR G QE B' (do Pure.pure ((<-shape x.block) matches some (_,0))) (do Pure.pure ((<-shape f.block) matches some (_,0))):=by intro B' x f j;cases j with|mk b r o s p=>exact ZL (fB p) fun g s e=>Zy rfl
 refine ZL (IK u q) fun k x d=>?_;refine ZL (IK u (p.mono d)) fun g y e=>?_;dsimp only;have q:=(q.mono d).mono e;have p:=(p.mono d).mono e;refine ZL (c _ _ _ q) fun l z h=>?_;refine ZL (c _ _ _ (p.mono h)) fun m z n=>?_;exact Zy rfl
def AddrR.eq(c:∀b b',B b b'->b=b') {a a':Addr} (h:AddrR B a a'):a=a':=by cases h with|mk b b' o s hb=>rw[c _ _ hb]
def IL{a a' b b':Addr} (w:G.sh=false) (ha:AddrR B a a') (hb:AddrR B b b'):SR G QE B (sameAddr a b) (sameAddr a' b'):=by
 refine .bij _ _ _ fun j=>?_;unfold sameAddr;have e:(a.block==b.block)=(a'.block==b'.block)/\(a.block=b.block->(a==b)=(a'==b')):=by rw[ha.eq (j.idn w),hb.eq (j.idn w)];exact⟨rfl,fun _=>rfl⟩
 by_cases d:a.block=b.block
 .have c:(a.block==b.block)=true:=by simpa using d
  rw[Zde c,Zde (e.1▸c),e.2 d];exact Zy rfl
 .have c:¬(a.block==b.block)=true:=by simpa using d
  rw[q' c,q' (e.1▸c)];refine ZL (uJ w ha) fun k x c=>?_;refine ZL (uJ w (hb.mono c)) fun l y f=>?_;split;·exact SR.halt _ (.unsupported _) _ trivial
  .refine Za (vR ((ha.mono c).mono f)) fun m _ _ g _=>?_;refine Za (vR (((hb.mono c).mono f).mono g)) fun p _ _ h _=>?_;refine ZL (OL w ((((ha.mono c).mono f).mono g).mono h) ((((hb.mono c).mono f).mono g).mono h)) fun q z s=>?_;split;·exact ZL (W8 _) fun r n t=>Zy rfl
   .exact Zy rfl
def OM{a c b d:Addr} (e:Bij G B)(f:AddrR B a c)(g:AddrR B b d):(a==b)=(c==d):=by cases f with|mk x x' o s hx=>cases g with|mk y y' p r hy=>
   rw[eN];simp only[cZ,Addr.mk.injEq];constructor;·rintro⟨rfl,rfl,rfl⟩;exact⟨e.fn _ _ _ hx hy,rfl,rfl⟩
   .rintro⟨rfl,rfl,rfl⟩;exact⟨e.inj _ _ _ hx hy,rfl,rfl⟩
def ON(B:Blk):Option (Addr×Bool)->Option (Addr×Bool)->Prop|none,none=>True|some x,some y=>AddrR B x.1 y.1/\x.2=y.2|_,_=>False
def zB{r a:Nat} (h:B r a):SR G (fun B x y=>ON B x y) B (numberAt r) (numberAt a):=by
 unfold numberAt;refine ZL (fB h) fun d s b=>?_;split;·exact Zy trivial
 .refine Za (iJ (b _ _ h)) fun e o g f c=>?_;cases c<;>first|exact Zy trivial|exact Zy ⟨‹_›,rfl⟩
def lP{a a':Addr} (h:AddrR B a a'):SR G (fun B x y=>AddrR B x.1 y.1/\x.2=y.2) B (behindNumber a) (behindNumber a'):=by have d:=h;unfold behindNumber;cases h with|mk b b' o s hb=>
  refine Za (zB hb) fun f x y e c=>?_;cases x<;>cases y<;>try exact c.elim
  .exact Zy ⟨d.mono e,rfl⟩
  .exact Zy c
def nB{a m:Addr} (h:AddrR B a m):SR G QE B (byteOf a) (byteOf m):=by cases h with|mk b b' o s hb=>unfold byteOf;cases s with|some s=>exact Zy rfl|none=>
   refine Za bI fun f p l c e=>?_;obtain⟨rfl,rfl⟩:=e;refine Za (vR (AddrR.mk b b' o none (c _ _ hb))) fun g _ _ d _=>?_;refine ZL (fB (d _ _ (c _ _ hb))) fun j s k=>?_;dsimp only;split
   .split;·exact Zy rfl
    .split;·exact Zy rfl
     .exact SR.halt _ (.stuck _) _ trivial
   .exact SR.halt _ (.stuck _) _ trivial
def OO(t:aN):SR G QE B (typeStr t) (typeStr t):=by
 unfold typeStr;refine Za (cX t) fun b i d c a=>?_;obtain⟨rfl,_⟩:=a;dsimp only;split;·exact SR.halt _ (.unsupported _) _ trivial
 .exact Zy rfl
def OP(t:aN) {a a' b b':Addr} (ha:AddrR B a a')(hb:AddrR B b b'):SR G QE B (do
   let (a,b):=((<-behindNumber a).1,(<-behindNumber b).1);if a.block==b.block&&a.block<(<-program).globals.size then return (<-byteOf a)==(<-byteOf b)
   let .named "sync.copyChecker" _:=(<-typeInfo t).desc|unsupported .addressObserved
   if a==b then Pure.pure true else unsupported .addressObserved) (do
   let (a,b):=((<-behindNumber a').1,(<-behindNumber b').1);if a.block==b.block&&a.block<(<-program).globals.size then return (<-byteOf a)==(<-byteOf b)
   let .named "sync.copyChecker" _:=(<-typeInfo t).desc|unsupported .addressObserved
   if a==b then Pure.pure true else unsupported .addressObserved):=by
 refine .bij _ _ _ fun c=>?_;refine Za (lP ha) fun E x y k d=>?_;refine Za (lP (hb.mono k)) fun F z u l A=>?_;dsimp only;refine Za bI fun H p L f w=>?_;obtain⟨rfl,rfl⟩:=w;replace ha:=(d.1.mono l).mono f;replace hb:=A.1.mono f;refine .bij _ _ _ fun c=>?_;have j:(x.1.block==z.1.block&&decide (x.1.block<G.P.globals.size))=(y.1.block==u.1.block&&decide (y.1.block<G.P.globals.size)):=by generalize x.1=a at ha |-;generalize y.1=a' at ha |-;generalize z.1=b at hb |-;generalize u.1=b' at hb |-;cases ha with|mk x x' o s d=>cases hb with|mk y y' p r hy=>have C:=c.low _ _ d;have D:(x=y↔x'=y'):=⟨fun e=>c.fn _ _ _ d (e▸hy),fun e=>c.inj _ _ _ d (e▸hy)⟩;rw[eN];simp only[aY,cZ,h6,C,D]
 rw[j,OM c ha hb];split
 .refine ZL (nB ha) fun h n g=>?_;refine ZL (nB (hb.mono g)) fun I m J=>?_;exact Zy rfl
 .refine Za (cX t) fun h i K g q=>?_;obtain⟨rfl,_⟩:=q;split
  .split;·exact Zy rfl
   .exact SR.halt _ (.unsupported .addressObserved) _ trivial
  .exact SR.halt _ (.unsupported .addressObserved) _ trivial
def OQ{n:Nat} {t:aN} {u:TypeDesc} (d:G.P.underlying t=some u)(c:G.sh=false∨G.flat n t=true)(a:∀m,(match u with|.int _|.bool|.string|.slice _=>true|.struct fs=>fs.all fun f=>G.flat m f.type|.array _ e=>G.flat m e|_=>false)=false):G.sh=false:=by
 rcases c with h|h;·exact h
 .cases n with|zero=>cases h|succ n=>have:=a n;unfold Env.flat at h;rw[d]at h;cases u<;>simp_all
def GZ:∀(d n:Nat) (t:aN) {x M y N:Value} {B:Blk},(G.sh=false∨G.flat n t=true)->VR G B x M->VR G B y N->SR G QE B (Op.equalIn d t x y) (Op.equalIn d t M N)
 |0,_,_,_,_,_,_,_,_,_,_=>SR.halt _ (.unsupported _) _ trivial|d+1,n,t,x,M,y,N,B,c,J,K=>by
  unfold Op.equalIn;refine Za (aO t) fun A u L P e=>?_;obtain⟨rfl,e⟩:=e;have m:=OQ e c;replace J:=J.mono P;replace K:=K.mono P;cases J<;>cases K<;>cases u<;>try first|exact SR.halt _ (.stuck _) _ trivial|exact SR.halt _ (.unsupported _) _ trivial|exact Zy rfl
  case int.int.int=>
   dsimp only;split;·exact Zy rfl
   .exact SR.halt _ (.stuck _) _ trivial
  case int.ptr.int k n a a' ha k'=>rcases n with(_|_)|_<;>first|exact Zy rfl|exact SR.halt _ (.unsupported .addressObserved) _ trivial
  case ptr.int.int a a' ha k n k'=>rcases n with(_|_)|_<;>first|exact Zy rfl|exact SR.halt _ (.unsupported .addressObserved) _ trivial
  case ptr.ptr.int a a' ha b b' hb k=>exact OP t ha hb
  case ptr.ptr.pointer a a' ha b b' hb elem=>
   have c:=m fun _=>rfl;refine ZL (aR _) fun U n g=>?_;split;·exact IL c (ha.mono g) (hb.mono g)
   .refine .bij _ _ _ fun R=>?_;obtain rfl:=(ha.mono g).eq (R.idn c);obtain rfl:=(hb.mono g).eq (R.idn c);split;·exact Zy rfl
    .exact ZL (W8 _) fun V n S=>Zy rfl
  case ptr.ptr.unsafePointer a a' ha b b' hb=>exact IL (m fun _=>rfl) ha hb
  case iface.iface.interface tx v v' z ty u L hu' ms=>
   have c:=m fun _=>rfl;dsimp only;split;·exact Zy rfl
   .refine Za (cX tx) fun U i i' g hi=>?_;obtain⟨rfl,_⟩:=hi;split
    .refine Za bI fun V p T S w=>?_;obtain⟨rfl,rfl⟩:=w;refine Za bI fun W p T aA w=>?_;obtain⟨rfl,rfl⟩:=w;split;·exact SR.halt _ (.unsupported _) _ trivial
     .exact ZL (OO tx) fun O s q=>dE trivial
    .exact GZ d 0 tx (.inl c) (z.mono g) (hu'.mono g)
  case agg.agg.struct xs xs' hx1 hx2 ys ys' hy1 hy2 fields=>
   have F:AR G A xs xs':=⟨hx1,hx2⟩;have H:AR G A ys ys':=⟨hy1,hy2⟩;dsimp only;refine Za bI fun O p T q w=>?_;obtain⟨rfl,rfl⟩:=w;split;·exact SR.halt _ (.unsupported _) _ trivial
   .have l:∀f∈fields,G.sh=false∨G.flat (n-1) f.type=true:=by
     intro f I;rcases c with h|h;·exact .inl h
     .cases n with|zero=>cases h|succ n=>unfold Env.flat at h;rw[e]at h;exact .inr (dS.1 h f I)
    refine ZL (OK _ _ _ _ fun C f s I j=>?_) fun C r j=>?_
    .split
     .refine Za (Q9 _ _ ((F.mono q).mono j)) fun X v v' D z=>?_;refine Za (Q9 _ _ (((H.mono q).mono j).mono D)) fun Y u L E e=>?_;refine ZL (GZ d _ _ (l f I) (z.mono E) e) fun Z b h8=>?_;split<;>exact Zy rfl
     .exact Zy rfl
    .split<;>exact Zy rfl
  case agg.agg.array xs xs' hx1 hx2 ys ys' hy1 hy2 len elem=>
   have F:AR G A xs xs':=⟨hx1,hx2⟩;have H:AR G A ys ys':=⟨hy1,hy2⟩;dsimp only;have l:G.sh=false∨G.flat (n-1) elem=true:=by
    rcases c with h|h;·exact .inl h
    .cases n with|zero=>cases h|succ n=>unfold Env.flat at h;rw[e]at h;exact .inr h
   refine ZL (aR _) fun O n q=>?_;refine ZL (y8 _ _ _ _ fun C f s j=>?_) fun C r j=>?_
   .refine Za (Q9 _ _ ((F.mono q).mono j)) fun X v v' D z=>?_;refine Za (Q9 _ _ (((H.mono q).mono j).mono D)) fun Y u L E e=>?_;refine ZL (GZ d _ _ l (z.mono E) e) fun Z b h8=>?_;split<;>exact Zy rfl
   .split<;>exact Zy rfl
def IM{d:Nat} {t:aN} {x y:Value} (h:bare x=true∨bare y=true):Op.eqGuardIn (d+1) t x y=(underlying t>>=fun _=>Pure.pure false):=by
 unfold Op.eqGuardIn;congr;funext u;rcases h with h|h;·cases x<;>first|(cases h;done)|(cases u<;>rfl)
 .cases y<;>first|(cases h;done)|(cases u<;>cases x<;>rfl)
def G3:∀(d:Nat)(t:aN) {x C y D:Value} {B:Blk},VR G B x C->VR G B y D->SR G QE B (Op.eqGuardIn d t x y) (Op.eqGuardIn d t C D)
 |0,_,_,_,_,_,_,_,_=>SR.halt _ (.unsupported _) _ trivial|d+1,t,x,C,y,D,B,h,j=>by
  by_cases g:bare x=true∨bare y=true;·rw[IM g,IM (by rw[<-h.bare,<-j.bare];exact g)];exact Za (aO t) fun e u A l a=>Zy rfl
  unfold Op.eqGuardIn;refine Za (aO t) fun e u A l a=>?_;obtain⟨rfl,a⟩:=a;clear a;replace h:=h.mono l;replace j:=j.mono l;cases h<;>cases j<;>first|(exfalso;exact g (.inl rfl))|(exfalso;exact g (.inr rfl))|(cases u<;>try exact Zy rfl)
  case agg.agg.struct xs xs' hx1 hx2 ys ys' hy1 hy2 fields=>
   have q:AR G e xs xs':=⟨hx1,hx2⟩;have w:AR G e ys ys':=⟨hy1,hy2⟩;dsimp only;refine ZL (OJ _ _ _ _ fun k f s c=>?_) fun k r c=>?_
   .split
    .refine Za (Q9 _ _ (q.mono c)) fun F v v' m z=>?_;refine Za (Q9 _ _ ((w.mono c).mono m)) fun H u A p a=>?_;refine ZL (G3 d _ (z.mono p) a) fun I b J=>?_;split<;>exact Zy rfl
    .exact Zy rfl
   .split<;>exact Zy rfl
  case agg.agg.array xs xs' hx1 hx2 ys ys' hy1 hy2 len elem=>
   have q:AR G e xs xs':=⟨hx1,hx2⟩;have w:AR G e ys ys':=⟨hy1,hy2⟩;dsimp only;refine ZL (aR _) fun K n E=>?_;refine ZL (y8 _ _ _ _ fun k f s c=>?_) fun k r c=>?_
   .refine Za (Q9 _ _ ((q.mono E).mono c)) fun F v v' m z=>?_;refine Za (Q9 _ _ (((w.mono E).mono c).mono m)) fun H u A p a=>?_;refine ZL (G3 d _ (z.mono p) a) fun I b J=>?_;split<;>exact Zy rfl
   .split<;>exact Zy rfl
def bE{c:Prop} [Decidable c] {a b:Sem α} {a' b':Sem β} (d:c->SR G Q B a a') (e:¬c->SR G Q B b b'):SR G Q B (if c then a else b) (if c then a' else b'):=by
 split;·exact d ‹_›
 .exact e ‹_›
def IN{a:BinOp} {t:aN} {o b:Operand} {x y:Value} (h:bare x=true∨bare y=true):eqGuard a t o b x y=Pure.pure ():=by
 unfold eqGuard;rcases h with h|h;·cases x<;>first|(cases h;done)|exact ite_self _
 .cases y<;>first|(cases h;done)|(cases x<;>exact ite_self _)
def OT(m:BinOp) (t:aN) (o z:Operand) {x n y q:Value} (w:VR G B x n) (l:VR G B y q):SR G QU B (eqGuard m t o z x y) (eqGuard m t o z n q):=by
 by_cases c:bare x=true∨bare y=true;·rw[IN c,IN (by rw[<-w.bare,<-l.bare];exact c)];exact Zy trivial
 unfold eqGuard;refine bE (fun _=>Zy trivial) fun _=>?_;cases w<;>cases l<;>first|(exfalso;exact c (.inl rfl))|(exfalso;exact c (.inr rfl))|try exact Zy (Q:=QU) trivial
 .refine bE (fun _=>Zy trivial) fun _=>?_;refine ZL (G3 _ _ .nilIface .nilIface) fun j b a=>?_;exact bE (fun _=>SR.halt _ (.unsupported _) _ trivial) fun _=>Zy trivial
 .rename_i xs xs' e f ys ys' g h;refine Za bI fun j p r a d=>?_;obtain⟨rfl,rfl⟩:=d;refine Za bI fun s p r k d=>?_;obtain⟨rfl,rfl⟩:=d;refine bE (fun _=>Zy trivial) fun _=>?_;refine ZL (G3 _ _ (VR.mono (Blk.le_trans a k) (.agg _ _ e f)) (VR.mono (Blk.le_trans a k) (.agg _ _ g h))) fun j b a=>?_;exact bE (fun _=>SR.halt _ (.unsupported _) _ trivial) fun _=>Zy trivial
def zC{A:cQ} {t:aN} {x g y h:Value} (z:VR G B x g) (f:VR G B y h):SR G (fun B v v'=>VR G B v v'/\∃p,v=.pointer p) B (Builtin.unsafeAdd_ A t #[x,y]) (Builtin.unsafeAdd_ A t #[g,h]):=by
 unfold Builtin.unsafeAdd_;cases z<;>try exact SR.halt _ (.stuck _) _ trivial
 .refine ZL (X9 f) fun j n c=>?_;refine bE (fun _=>SR.halt _ (.unsupported _) _ trivial) fun _=>bE (fun _=>SR.halt _ (.unsupported _) _ trivial) fun _=>SR.halt _ (.unsupported _) _ trivial
 .rename_i a r e;refine ZL (X9 f) fun j n c=>?_;refine bE (fun _=>?_) fun _=>bE (fun _=>SR.halt _ (.unsupported _) _ trivial) fun _=>?_;·cases e with|mk b b' o s hb=>refine Za (y9 (c _ _ hb)) fun k x y d z=>?_;obtain⟨rfl,rfl⟩:=z;exact Zy ⟨.ptr _ _ (.mk _ _ _ _ (d _ _ (c _ _ hb))),_,rfl⟩
  .cases e with|mk b b' o s hb=>
    refine ZL (fB (c _ _ hb)) fun k w d=>?_;split
    .refine Za bI fun q p u l m=>?_;obtain⟨rfl,rfl⟩:=m;dsimp only;split;·exact Zy ⟨.ptr _ _ (.mk _ _ _ _ (l _ _ (d _ _ (c _ _ hb)))),_,rfl⟩
     .exact SR.halt _ (.unsupported _) _ trivial
    .exact SR.halt _ (.unsupported _) _ trivial
def vS{d:cQ} {t:aN} {x a y b:Value} (e:VR G B x a) (c:VR G B y b):SR G (QV G) B (Builtin.unsafeAdd_ d t #[x,y]) (Builtin.unsafeAdd_ d t #[a,b]):=SR.mono (zC e c) fun _ _ _ _ h=>h.1
def IP(t:aN) {x g y h:Value} (p:VR G B x g) (f:VR G B y h):SR G (QV G) B (movedPointer t x y) (movedPointer t g h):=by
 unfold movedPointer;have c:=p;cases p<;>first|exact vS c f|exact SR.halt _ (.stuck _) _ trivial|skip
 rename_i a l j;cases j with|mk b b' o s hb=>
  refine Za (zB hb) fun k x y d p=>?_;have e:x.isSome=y.isSome:=by cases x<;>cases y<;>first|exact p.elim|rfl
  rw[e];refine bE (fun _=>SR.halt _ (.unsupported _) _ trivial) fun _=>?_;exact vS (c.mono d) (f.mono d)
def OU{a g:Addr} (h:AddrR B a g) (b:Bool):SR G (QV G) B (asNumber a b) (asNumber g b):=by unfold asNumber;refine Za (X6 (.number a g b h)) fun d r f e c=>?_;exact Zy (.ptr _ _ (.mk _ _ _ _ c))
def GQ(t:aN) {x j y k:Value} (I:VR G B x j) (f:VR G B y k):SR G (QV G) B (movedNumber t x y) (movedNumber t j k):=by
 unfold movedNumber;refine Za (aO t) fun w d D h r=>?_;obtain⟨rfl,_⟩:=r;dsimp only;refine bE (fun _=>SR.halt _ (.unsupported _) _ trivial) fun _=>?_;replace I:=I.mono h;replace f:=f.mono h;have l:=I;cases I<;>first|exact vS l f|exact SR.halt _ (.stuck _) _ trivial|skip
 rename_i a C q;refine Za (lP q) fun z n u m s=>?_;obtain⟨F,H⟩:=n;obtain⟨m1,m2⟩:=u;obtain⟨b,c⟩:=s;dsimp only at b c |-;subst c;refine Za (zC (.ptr _ _ b) (f.mono m)) fun A v v' E e=>?_;obtain⟨e,p,rfl⟩:=e;have g:=e;cases e<;>try exact Zy g
 exact OU ‹_› _
def zD{a z b D:Addr} (A:AddrR B a z) (C:AddrR B b D):SR G QE B (Op.twoPlaces a b) (Op.twoPlaces z D):=by
 unfold Op.twoPlaces;refine Za bI fun l p w d h=>?_;obtain⟨rfl,rfl⟩:=h;refine .bij _ _ _ fun c=>?_;replace A:=A.mono d;replace C:=C.mono d;have f : (a.block != b.block || decide (a.block ≥ G.P.globals.size)) = (z.block != D.block || decide (z.block ≥ G.P.globals.size)) := by cases A with|mk x x' o s hx=>cases C with|mk y y' p r hy=>have j:=c.low _ _ hx;have k:(x=y↔x'=y'):=⟨fun e=>c.fn _ _ _ hx (e▸hy),fun e=>c.inj _ _ _ hx (e▸hy)⟩;rw[eN];simp only[fA,bne_iff_ne,h6,ne_eq,k,ge_iff_le,<-hQ,j]
 rw[f];refine bE (fun _=>SR.halt _ (.unsupported .addressObserved) _ trivial) fun _=>?_;refine ZL (nB A) fun q n g=>?_;refine ZL (nB (C.mono g)) fun t m u=>?_;exact Zy rfl
def OW(k:IntKind) {a a' b b':Addr} (ha:AddrR B a a') (hb:AddrR B b b'):SR G (QV G) B (Op.addrSub k a b) (Op.addrSub k a' b'):=by unfold Op.addrSub;refine ZL (zD ha hb) fun c n d=>?_;exact Zy (.int _ _)
def G4(c:BinOp) {a a' b b':Addr} (ha:AddrR B a a') (hb:AddrR B b b'):SR G (QV G) B (Op.addrCmp c a b) (Op.addrCmp c a' b'):=by unfold Op.addrCmp;refine ZL (zD ha hb) fun d n e=>?_;cases c<;>first|exact Zy (.bool _)|exact SR.halt _ (.unsupported .addressObserved) _ trivial
def HJ(k:IntKind) {a a':Addr} (ha:AddrR B a a') (n:Int):SR G (QV G) B (Op.addrMod k a n) (Op.addrMod k a' n):=by unfold Op.addrMod;have c:=ha;cases ha with|mk b b' o s hb=>
  refine ZL (fB hb) fun g q d=>?_;split
  .refine Za (cX _) fun h i p e f=>?_;obtain⟨rfl,_⟩:=f;dsimp only;refine bE (fun _=>SR.halt _ (.unsupported _) _ trivial) fun _=>?_;exact ZL (nB ((c.mono d).mono e)) fun j m l=>Zy (.int _ _)
  .exact SR.halt _ (.unsupported _) _ trivial
def zE(P:aA)(t:aN)(l:World):(underlying t).run P l=match P.underlying t with|some d=>.ok d l|none=>.halt (.stuck "no such type") l:=by unfold underlying;simp only[aD,program,Sem.run,Result.andThen];cases P.underlying t<;>rfl
def OX(P:aA)(n:Nat)(t:aN) {x y:Value} (h:(∃xs,x=.tuple xs)∨∃ys,y=.tuple ys)(l:World):∃z,(Op.equalIn (n+1) t x y).run P l=.halt z l/\Halt.quiet z:=by unfold Op.equalIn;rw[aD,zE];cases e:P.underlying t with
 |none=>exact⟨_,rfl,trivial⟩|some d=>
  simp only[Result.andThen];rcases h with⟨xs,rfl⟩|⟨ys,rfl⟩;·cases d<;>cases y<;>first|exact⟨_,rfl,trivial⟩|(rename_i a;cases a<;>exact⟨_,rfl,trivial⟩)|(rename_i a b c;cases a<;>exact⟨_,rfl,trivial⟩)
  .cases d<;>cases x<;>first|exact⟨_,rfl,trivial⟩|(rename_i a;cases a<;>exact⟨_,rfl,trivial⟩)|(rename_i a b c;cases a<;>exact⟨_,rfl,trivial⟩)
def IQ(P:aA)(t:aN) {x y:Value} (h:(∃xs,x=.tuple xs)∨∃ys,y=.tuple ys)(l:World):∃z,(Op.equal t x y).run P l=.halt z l/\Halt.quiet z:=OX P 9999 t h l
def OY(P:aA)(c:BinOp)(t:aN) {x y:Value} (h:(∃xs,x=.tuple xs)∨∃ys,y=.tuple ys)(l:World):∃z,(binOp c t x y).run P l=.halt z l/\Halt.quiet z:=by
 by_cases d:c=.eql
 .subst d;have e:binOp .eql t x y=(do Pure.pure (.bool (<-Op.equal t x y))):=by
   unfold binOp;rcases h with⟨xs,rfl⟩|⟨ys,rfl⟩;·cases y<;>rfl
   .cases x<;>rfl
  obtain⟨z,b,f⟩:=IQ P t h l;exact⟨z,by rw[e,aD,b];rfl,f⟩
 by_cases b:c=.neq
 .subst b;have e:binOp .neq t x y=(do Pure.pure (.bool (!(<-Op.equal t x y)))):=by
   unfold binOp;rcases h with⟨xs,rfl⟩|⟨ys,rfl⟩;·cases y<;>rfl
   .cases x<;>rfl
  obtain⟨z,b,f⟩:=IQ P t h l;exact⟨z,by rw[e,aD,b];rfl,f⟩
 unfold binOp;rcases h with⟨xs,rfl⟩|⟨ys,rfl⟩;·cases c<;>first|exact absurd rfl d|exact absurd rfl b|(cases y<;>exact⟨_,rfl,trivial⟩)
 .cases c<;>first|exact absurd rfl d|exact absurd rfl b|(cases x<;>first|exact⟨_,rfl,trivial⟩|(rename_i a;cases a<;>exact⟨_,rfl,trivial⟩))
def OZ(g:BinOp) (t:aN) (H:(g=.eql∨g=.neq)->G.sh=false∨G.flat 8 t=true) {x p y q:Value} (I:VR G B x p) (E:VR G B y q):SR G (QV G) B (binOp g t x y) (binOp g t p q):=by
  have D:(g=.eql∨g=.neq)->SR G QE B (Op.equal t x y) (Op.equal t p q):=fun h=>by exact GZ _ 8 _ (H h) I E
  have s:SR G QE B (Op.equal t x y) (Op.equal t p q)->SR G (QV G) B (do Pure.pure (.bool (<-Op.equal t x y))) (do Pure.pure (.bool (<-Op.equal t p q))):=fun h=>ZL h fun e b c=>Zy (.bool _);have w:SR G QE B (Op.equal t x y) (Op.equal t p q)->SR G (QV G) B (do Pure.pure (.bool (!(<-Op.equal t x y)))) (do Pure.pure (.bool (!(<-Op.equal t p q)))):=fun h=>ZL h fun e b c=>Zy (.bool _);by_cases C:(∃xs,x=.tuple xs)∨∃ys,y=.tuple ys;· refine .dead _ _ _ fun l _=>?_;obtain⟨z,c,f⟩:=OY G.P g t C l;exact⟨z,l,c,f,fun _ _=>rfl⟩
  unfold binOp;cases I<;>cases E<;>first|(exfalso;exact C (.inl ⟨_,rfl⟩))|(exfalso;exact C (.inr ⟨_,rfl⟩))|skip
  case int.int k n k' m=>cases g<;>dsimp only<;>first
      |exact tK _ k n m _ (.inr (.inr (.inr (.inr ⟨_,rfl⟩))))| (refine bE (fun _ => SR.halt _ (.stuck _) _ trivial) fun _ => ?_;first
         |exact tK _ k n m _ (.inl rfl)|exact tK _ k n m _ (.inr (.inl rfl))|exact tK _ k n m _ (.inr (.inr (.inl rfl)))|exact tK _ k n m _ (.inr (.inr (.inr (.inl rfl)))))
  case string.string a b=>cases g<;>exact p8 _ _ _
  all_goals cases g<;>first
      |exact SR.halt _ (.stuck _) _ trivial|exact SR.halt _ (.unsupported .addressObserved) _ trivial|exact s (D (.inl rfl))|exact w (D (.inr rfl))|skip
  case int.nilPtr.add k n=>exact GQ t .nilPtr (.int _ _)
  case int.ptr.add k n a a' ha=>exact GQ t (.ptr _ _ ha) (.int _ _)
  case int.ptr.and k n a a' ha=>exact Za (lP ha) fun e x y c I=>HJ _ I.1 _
  case nilPtr.int.add k n=>refine Za (aO t) fun e d F c A=>?_;obtain⟨rfl,_⟩:=A;exact bE (fun _=>IP t .nilPtr (.int _ _)) fun _=>GQ t .nilPtr (.int _ _)
  case nilPtr.int.sub k n=>exact GQ t .nilPtr (.int _ _)
  case ptr.int.add a a' ha k n=>refine Za (aO t) fun e d F c A=>?_;obtain⟨rfl,_⟩:=A;exact bE (fun _=>IP t (.ptr _ _ (ha.mono c)) (.int _ _)) fun _=>GQ t (.ptr _ _ (ha.mono c)) (.int _ _)
  case ptr.int.sub a a' ha k n=>exact GQ t (.ptr _ _ ha) (.int _ _)
  case ptr.int.rem a a' ha k n=>exact Za (lP ha) fun e x y c I=>HJ _ I.1 _
  case ptr.int.and a a' ha k n=>exact Za (lP ha) fun e x y c I=>HJ _ I.1 _
  case ptr.ptr.sub a a' ha b b' hb=>exact Za (lP ha) fun e x y c I=>Za (lP (hb.mono c)) fun r z u f j=>OW _ (I.1.mono f) j.1
  case ptr.ptr.lss a a' ha b b' hb=>exact Za (lP ha) fun e x y c I=>Za (lP (hb.mono c)) fun r z u f j=>G4 _ (I.1.mono f) j.1
  case ptr.ptr.leq a a' ha b b' hb=>exact Za (lP ha) fun e x y c I=>Za (lP (hb.mono c)) fun r z u f j=>G4 _ (I.1.mono f) j.1
  case ptr.ptr.gtr a a' ha b b' hb=>exact Za (lP ha) fun e x y c I=>Za (lP (hb.mono c)) fun r z u f j=>G4 _ (I.1.mono f) j.1
  case ptr.ptr.geq a a' ha b b' hb=>exact Za (lP ha) fun e x y c I=>Za (lP (hb.mono c)) fun r z u f j=>G4 _ (I.1.mono f) j.1
end
section
variable {G:Env} {α β:Type} {Q:Blk->α->β->Prop} {B:Blk}
def O2{x a y c:Value} (m:VR G B x a) (f:VR G B y c):SR G (QV G) B (Builtin.max2 x y) (Builtin.max2 a c):=by cases m<;>cases f<;>first|exact SR.halt _ (.stuck _) _ trivial|exact SR.halt _ (.unsupported .addressObserved) _ trivial|exact Zy (.int _ _)|exact Za (p8 _ _ _) fun g v v' k e=>Za (Q:=QE) (p7 e) fun h b j l d=>by cases d;exact Zy (.string _)
def O3{x a y c:Value} (m:VR G B x a) (f:VR G B y c):SR G (QV G) B (Builtin.min2 x y) (Builtin.min2 a c):=by cases m<;>cases f<;>first|exact SR.halt _ (.stuck _) _ trivial|exact SR.halt _ (.unsupported .addressObserved) _ trivial|exact Zy (.int _ _)|exact Za (p8 _ _ _) fun g v v' k e=>Za (Q:=QE) (p7 e) fun h b j l d=>by cases d;exact Zy (.string _)
def vT(f:Value->Value->Sem Value) (g:∀(B:Blk) (x a y b:Value),VR G B x a->VR G B y b->SR G (QV G) B (f x y) (f a b)):∀{vs vs':hD} {x a:Value} {B:Blk},LR G B vs vs'->VR G B x a->SR G (QV G) B (vs.foldlM f x) (vs'.foldlM f a)|_,_,x,a,B,.nil,h=>by simp only[List.foldlM_nil];exact Zy h|_,_,x,a,B,.cons v v' vs vs' hv hs,h=>by simp only[List.foldlM_cons];exact Za (g B _ _ _ _ h hv) fun e y b c d=>vT f g (hs.mono c) d
def O4{e:cQ} {t:aN} {xs xs':bJ} (h:AR G B xs xs'):SR G (QV G) B (Builtin.max_ e t xs) (Builtin.max_ e t xs'):=by unfold Builtin.max_;have a:=h.list;generalize xs.toList=l at a |-;generalize xs'.toList=d at a |-;cases a with|nil=>exact SR.halt _ (.stuck _) _ trivial|cons v v' vs vs' hv hs=>exact vT _ (fun B _ _ _ _ b c=>O2 b c) hs hv
def O5{e:cQ} {t:aN} {xs xs':bJ} (h:AR G B xs xs'):SR G (QV G) B (Builtin.min_ e t xs) (Builtin.min_ e t xs'):=by unfold Builtin.min_;have a:=h.list;generalize xs.toList=l at a |-;generalize xs'.toList=d at a |-;cases a with|nil=>exact SR.halt _ (.stuck _) _ trivial|cons v v' vs vs' hv hs=>exact vT _ (fun B _ _ _ _ b c=>O3 b c) hs hv
def O6{S:cQ} {t:aN} {xs xs':bJ} (h:AR G B xs xs'):SR G (QV G) B (Builtin.copy_ S t xs) (Builtin.copy_ S t xs'):=by unfold Builtin.copy_;have f:=h.arg 0;have e:=h.arg 1;generalize xs[0]?=O at f |-;generalize xs'[0]?=z at f |-;generalize xs[1]?=P at e |-;generalize xs'[1]?=A at e |-;cases Y:S[0]? with|none=>exact SR.halt _ (.stuck _) _ trivial|some sT=>
 cases O<;>cases z<;>(try exact f.elim);·exact SR.halt _ (.stuck _) _ trivial
 cases P<;>cases A<;>(try exact e.elim);·exact SR.halt _ (.stuck _) _ trivial
 rename_i s M x N;change VR G B s M at f;change VR G B x N at e;refine Za (aO sT) fun R d W C E=>?_;obtain⟨rfl,E⟩:=E;cases d<;>try exact SR.halt _ (.stuck _) _ trivial
 replace f:=f.mono C;replace e:=e.mono C;rcases f.slice_or with y|⟨g,j,H,F,rfl,rfl,k⟩;·cases f<;>first|exact absurd rfl (y _ _ _)|exact SR.halt _ (.stuck _) _ trivial
 refine Za (vO e) fun T n Z p w=>?_;obtain⟨rfl,u⟩:=w;refine ZL (aR _) fun U m q=>?_;rcases k with k|⟨L,rfl,rfl,rfl⟩;case inr=>have K:Nat.min n 0=0:=Nat.min_zero n;rw[K];refine Za (vP ((e.mono p).mono q) _) fun I c J D r=>?_;obtain⟨rfl,rfl⟩:=r;cases g with
  |none=>exact Zy (fQ _)|some a=>exact Zy (fQ _)
 refine Za (tJ ((e.mono p).mono q) _ _ fun b l c h=>(by rw[<-u b l c h];exact Nat.min_le_left _ _)) fun I c J D r=>?_;have k:=OA.mono (Blk.le_trans p (Blk.le_trans q D)) k;cases g<;>cases j<;>try exact k.elim
 .exact Zy (fQ _)
 .exact Za (nA 0 k r.list) fun V _ _ X _=>Zy (fQ _)
def IS:∀(n:Nat)(b:ByteArray) {a a':Addr} {B:Blk},AddrR B a a'->SR G QE B (loadBytes a b n) (loadBytes a' b n)
 |0,b,a,a',B,h=>Zy rfl|n+1,b,a,a',B,h=>by
  unfold loadBytes;refine Za (B8 h) fun e v v' c d=>?_;cases d<;>try exact SR.halt _ (.stuck _) _ trivial
  rename_i k m;cases k<;>first|exact SR.halt _ (.stuck _) _ trivial|exact IS n _ ((h.mono c).add 1)
def O7{a k:Addr} (h:AddrR B a k) (u:aN) (n:Nat):SR G QE B (variablesAt a u n) (variablesAt k u n):=by cases h with|mk b b' o s hb=>unfold variablesAt;refine Za bI fun e p j c d=>?_;obtain⟨rfl,rfl⟩:=d;refine ZL (fB (c _ _ hb)) fun f s g=>?_;split<;>exact Zy rfl
def O8(H:G.sh=false) {F:cQ} {t:aN} {xs xs':bJ} (h:AR G B xs xs'):SR G (QV G) B (Builtin.unsafeString_ F t xs) (Builtin.unsafeString_ F t xs'):=by obtain⟨l⟩:=xs;obtain⟨m⟩:=xs';have j:l.length=m.length:=h.size;unfold Builtin.unsafeString_;match l,m,j with
 |[],_,_=>exact SR.halt _ (.stuck _) _ trivial|[x],_,_=>cases x<;>exact SR.halt _ (.stuck _) _ trivial|x::_::_::_,_,_=>cases x<;>exact SR.halt _ (.stuck _) _ trivial|[a,b],[a',b'],_=>
  have u:VR G B a a':=h.at_ 0 _ _ rfl rfl;have w:VR G B b b':=h.at_ 1 _ _ rfl rfl;clear h;have c:∀{p p':i'},OA B p p'->SR G (QV G) B (do
    let n<-asInt b
    let some f:=F[0]?|stuck "unsafe.String: no argument types"
    if n<0 then runtimePanic (.error "unsafe.String: len out of range")
    if n>IntKind.i64.max then unsupported (.unsafePointer "String: a length above the largest int")
    match p with
    |none=>if n=0 then Pure.pure (.string .empty);else runtimePanic (.error "unsafe.String: ptr is nil and len is not zero");|some a=>if n=0 then Pure.pure (.string .empty);else if<-variablesAt a (<-elemOf f) n.toNat then do let s<-loadBytes a .empty n.toNat;freeze a n.toNat;Pure.pure (.string s);else unsupported (.unsafePointer "String: not so many bytes at ptr")) (do
    let n<-asInt b'
    let some f:=F[0]?|stuck "unsafe.String: no argument types"
    if n<0 then runtimePanic (.error "unsafe.String: len out of range")
    if n>IntKind.i64.max then unsupported (.unsafePointer "String: a length above the largest int")
    match p' with|none=>if n=0 then Pure.pure (.string .empty);else runtimePanic (.error "unsafe.String: ptr is nil and len is not zero");|some a=>if n=0 then Pure.pure (.string .empty);else if<-variablesAt a (<-elemOf f) n.toNat then do let s<-loadBytes a .empty n.toNat;freeze a n.toNat;Pure.pure (.string s);else unsupported (.unsafePointer "String: not so many bytes at ptr")):=by intro p p' d;refine ZL (X9 w) fun y n q=>?_;cases F[0]? with|none=>exact SR.halt _ (.stuck _) _ trivial|some f=>
    dsimp only;split;·exact oB _ trivial
    .split;·exact SR.halt _ (.unsupported _) _ trivial
     .replace d:=OA.mono q d;cases p<;>cases p'<;>try exact d.elim
      .dsimp only;split;·exact Zy (.string _)
       .exact dE trivial
      .dsimp only;split;·exact Zy (.string _)
       .refine ZL (NN f) fun z e g=>?_;refine ZL (O7 (AddrR.mono g d) _ _) fun A b k=>?_;split
        .refine ZL (IS _ _ ((AddrR.mono g d).mono k)) fun C s r=>?_;exact Za (NL H (((AddrR.mono g d).mono k).mono r)) fun D _ _ E _=>Zy (.string _)
        .exact SR.halt _ (.unsupported _) _ trivial
  cases u<;>first|exact SR.halt _ (.stuck _) _ trivial|exact c (p:=none) (p':=none) trivial|exact c (p:=some _) (p':=some _) ‹_›
def O9(e:aN) {xs xs':bJ} (h:AR G B xs xs') (f c:Addr->Sem Value) (k:∀(B':Blk) (a a':Addr),B.le B'->AddrR B' a a'->SR G (QV G) B' (f a) (c a')):SR G (QV G) B (newRow e xs>>=fun a=>markStringish a>>=fun _=>f a) (newRow e xs'>>=fun a=>markStringish a>>=fun _=>c a):=by
 have b:∀(xs:bJ)(f:Addr->Sem Value),(newRow e xs>>=fun a=>markStringish a>>=fun _=>f a)=.new (.cells xs e) fun r=>.shape r fun s=>(match s with|some (_,n)=>freeze ⟨r,n,none⟩ 1|none=>Pure.pure ())>>=fun _=>f ⟨r,0,none⟩:=by intro xs f;show Sem.new _ _=_;congr 1;funext r;show Sem.shape _ _=_;congr 1;funext s;cases s<;>rfl
 rw[b,b];refine .newF B xs xs' e (fun r=>f ⟨r,0,none⟩) (fun r=>c ⟨r,0,none⟩) (fun r s=>(match s with|some (_,n)=>freeze ⟨r,n,none⟩ 1|none=>Pure.pure ())>>=fun _=>f ⟨r,0,none⟩)
  (fun r s=>(match s with|some (_,n)=>freeze ⟨r,n,none⟩ 1|none=>Pure.pure ())>>=fun _=>c ⟨r,0,none⟩) h (fun r=>rfl) (fun r=>rfl) fun B' r j d g=>k B' _ _ d (.mk _ _ _ _ g)
def O'(e:aN) (s:ByteArray):SR G (QV G) B (Conv.stringToBytes e s) (Conv.stringToBytes e s):=by
 unfold Conv.stringToBytes;refine ZL (W8 _) fun g d k=>?_;refine O9 e (xs':=_) ⟨rfl,fun i v v' b c=>?_⟩ _ _ fun h a j l f=>Zy (.slice _ _ _ _ f)
 .rw[b]at c;cases c;rw[yU]at b;split at b;·rw[bD]at b;obtain⟨x,m,rfl⟩:=e'.1 b;exact .int _ _
  .rw[pV]at b;split at b;·cases b;exact .int _ _
   .cases b
def IT{σ:Type} (f b:Value->σ->Sem (ForInStep σ)):∀{xs xs':hD} (s:σ) {B:Blk},LR G B xs xs'->(∀(B':Blk) x a s,B.le B'->VR G B' x a->SR G QE B' (f x s) (b a s))->SR G QE B (forIn xs s f) (forIn xs' s b)|_,_,s,B,.nil,h=>by simp only[pX];exact Zy rfl|_,_,s,B,.cons v v' vs vs' hv hs,h=>by simp only[pY];refine ZL (h B v v' s (Blk.le_refl _) hv) fun g r c=>?_;cases r with|done s=>exact Zy rfl|yield s=>exact IT f b s (hs.mono c) fun d x a s e=>h d x a s (Blk.le_trans c e)
def PA{v v':Value} (h:VR G B v v'):SR G (QV G) B (Conv.bytesToString v) (Conv.bytesToString v'):=by
 unfold Conv.bytesToString;cases h<;>try first|exact SR.halt _ (.stuck _) _ trivial|exact Zy (.string _)
 rename_i a j l c f;refine Za (p6 f l) fun g xs xs' m b=>?_;refine ZL (α:=ByteArray) ?_ fun d s e=>Zy (.string _);rw[<-mL,<-mL];refine IT _ _ _ (AR.list b) fun d x p s e b=>?_;cases b<;>try exact SR.halt _ (.stuck _) _ trivial
 rename_i k n;cases k<;>first|exact SR.halt _ (.stuck _) _ trivial|exact Zy rfl
def PB{f c:aN} (m:G.conv f c=true) {x A:Value} (h:VR G B x A):SR G (QV G) B (convert f c x) (convert f c A):=by
 unfold convert;refine Za (aO f) fun H d I s n=>?_;obtain⟨rfl,n⟩:=n;refine Za (aO c) fun r e J t p=>?_;obtain⟨rfl,p⟩:=p;unfold Env.conv at m;rw[n,p]at m;replace h:=(h.mono s).mono t;clear n p s t;cases d<;>cases e<;>(try cases m);case int.int k k'=>cases h<;>first
   |exact Zy (.int _ _)|exact SR.halt _ (.unsupported .addressObserved) _ trivial|exact SR.halt _ (.unsupported (.noEntry _)) _ trivial
 case int.string k=>cases h<;>first
   |exact Zy (.string _)|exact SR.halt _ (.unsupported .addressObserved) _ trivial|exact SR.halt _ (.unsupported (.noEntry _)) _ trivial
 case string.string=>cases h<;>first
   |exact Zy (.string _)|exact SR.halt _ (.unsupported .addressObserved) _ trivial|exact SR.halt _ (.unsupported (.noEntry _)) _ trivial
 case string.slice el=>
  have j:(match G.P.underlying el with|some (.int .u8)=>true|_=>false)=true:=m;cases h<;>try exact SR.halt _ (.unsupported (.noEntry _)) _ trivial
  refine Za (aO el) fun C u F w b=>?_;obtain⟨rfl,b⟩:=b;rw[b]at j;split at j;·rename_i g;cases g;exact O' _ _
  .cases j
 case slice.string el=>
  have j:(match G.P.underlying el with|some (.int .u8)=>true|_=>false)=true:=m;have q:∀(v v':Value),VR G r v v'->SR G (QV G) r (do match<-underlying el with|.int .u8=>Conv.bytesToString v;|.int .i32=>Conv.runesToString v;|_=>stuck "Convert: a slice of what to string?") (do match<-underlying el with|.int .u8=>Conv.bytesToString v';|.int .i32=>Conv.runesToString v';|_=>stuck "Convert: a slice of what to string?"):=by
   intro v v' E;refine Za (aO el) fun C u F w b=>?_;obtain⟨rfl,b⟩:=b;rw[b]at j;split at j;·rename_i g;cases g;exact PA (E.mono w)
   .cases j
  have D:=h;cases h<;>first
   |exact Zy (.string _)|exact q _ _ D|skip
  refine .dead _ _ _ fun l _=>?_;suffices y:∃z,(do match<-underlying el with|.int .u8=>Conv.bytesToString (.tuple #[]);|.int .i32=>Conv.runesToString (.tuple #[]);|_=>stuck "Convert: a slice of what to string?").run G.P l=.halt z l/\Halt.quiet z from⟨_,l,y.choose_spec.1,y.choose_spec.2,fun _ _=>rfl⟩;rw[aD,zE];cases G.P.underlying el with|none=>exact⟨_,rfl,trivial⟩|some d=>simp only[Result.andThen];cases d<;>first|exact⟨_,rfl,trivial⟩|(rename_i k;cases k<;>exact⟨_,rfl,trivial⟩)
def PC(t:aN) {x b:Value} (h:VR G B x b):SR G (QV G) B (Instr.makeInterface t x) (Instr.makeInterface t b):=by unfold Instr.makeInterface;refine Za (aO t) fun e d f c a=>?_;obtain⟨rfl,a⟩:=a;cases d<;>first|exact SR.halt _ (.stuck _) _ trivial|exact Zy (.iface _ _ _ (h.mono c))
def PE{t a:aN} (w:G.zero a=true) {x e:Value} (h:VR G B x e):SR G (QV G) B (Instr.typeAssert x t a true) (Instr.typeAssert e t a true):=by
 unfold Instr.typeAssert;refine Za (aO a) fun j d p l g=>?_;obtain⟨rfl,g⟩:=g;replace h:=h.mono l;have b:∀(B':Blk),SR G (QV G) B' (do Pure.pure (Value.tuple #[<-zeroValue a,false])) (do Pure.pure (Value.tuple #[<-zeroValue a,false])):=fun B'=>Za (XA w) fun k z r f c=>Zy (Zh ((AR.one c.1).push (.bool _)));have m:VR G j (.tuple #[x,true]) (.tuple #[e,true]):=Zh ((AR.one h).push (.bool _));cases h<;>cases d<;>try first|exact SR.halt _ (.stuck _) _ trivial|exact b _
 case iface.interface ty v v' hv want=>
  refine Za (cX ty) fun k i q f n=>?_;obtain⟨rfl,_⟩:=n;split;·exact Zy (m.mono f)
  .exact b _
 all_goals exact bE (fun _=>Zy (Zh ((AR.one (by assumption)).push (.bool _)))) fun _=>b _
def PF{t:aN} (g:G.P.underlying t=some .string) {x c:Value} (h:VR G B x c):SR G (QV G) B (Instr.range t x) (Instr.range t c):=by
 unfold Instr.range;refine Za (aO t) fun j d m n a=>?_;obtain⟨rfl,a⟩:=a;rw[g]at a;cases a;cases h<;>try exact SR.halt _ (.stuck _) _ trivial
 refine Za (Q:=fun B o b=>OR G B o b) (Zy (.iter _ _)) fun k o b p e=>?_;exact Za (X6 e) fun l r s q f=>Zy (.ptr _ _ (.mk _ _ _ _ f))
def PG{t:aN} {x c:Value} (h:VR G B x c):SR G (QV G) B (Instr.next x true t) (Instr.next c true t):=by
 unfold Instr.next;cases h<;>try exact SR.halt _ (.stuck _) _ trivial
 rename_i a k e;cases e with|mk b b' o s hb=>
  cases o<;>try exact SR.halt _ (.stuck _) _ trivial
  refine Za (iJ hb) fun g o m d f=>?_;cases f<;>try exact SR.halt _ (.stuck _) _ trivial
  rename_i n p;refine bE (fun _=>?_) fun _=>Zy (Zh (AR.one (.bool _)));exact Za (CB (d _ _ hb) (.iter _ _)) fun j _ _ l _=>Zy (Zh (((AR.one (.bool _)).push (fQ _)).push (.int _ _)))
def run_panicnil(P:aA)(l:World):(∃n w,Instr.panicnil.run P l=.ok n w/\w.heap=l.heap)∨∃x w,Instr.panicnil.run P l=.halt x w/\Halt.quiet x/\w.heap=l.heap:=by unfold Instr.panicnil;have e:(sys .env).run P l=.ok (l.sys .env).1 (l.sys .env).2:=rfl;have a:(l.sys .env).2.heap=l.heap:=rfl;simp only[aD,e,aI];generalize (l.sys .env).1=r;generalize (l.sys .env).2=w at a;cases r<;>first|exact .inr ⟨_,_,rfl,trivial,a⟩|exact .inl ⟨_,_,rfl,a⟩
def PH(P:aA)(l:World):∃x w,(runtimePanic .panicNil:Sem Value).run P l=.halt x w/\Halt.quiet x/\∀b,b<l.heap.size->w.heap[b]?=l.heap[b]?:=by unfold runtimePanic;simp only[aD,run_program,aI,elemOf,underlying];cases h:P.underlying P.rt.panicNilError with|none=>exact⟨_,_,rfl,trivial,fun _ _=>rfl⟩|some d=>cases d<;>first|exact⟨_,_,rfl,trivial,fun _ _=>rfl⟩|exact⟨_,_,rfl,trivial,fun b a=>by simp[dP a]⟩
def PI{x c:Value} (h:VR G B x c):SR G (QV G) B (Instr.panic x) (Instr.panic c):=by
 unfold Instr.panic;cases h<;>try first|exact SR.halt _ (.stuck _) _ trivial|exact SR.halt _ (.panic _) _ trivial
 refine SR.dead _ _ _ fun l _=>?_;simp only[aD];rcases run_panicnil G.P l with⟨n,w,h,a⟩|⟨x,w,h,e,a⟩
 .rw[h];simp only[aI];split;·exact⟨_,_,rfl,trivial,fun b d=>by rw[a]⟩
  .have:=PH G.P w;rw[a]at this;exact this
 .rw[h];exact⟨x,w,rfl,e,fun b d=>by rw[a]⟩
end
inductive NR (G:Env)(B:Blk):Next->Next->Prop|value (v v':Value) (h:VR G B v v'):NR G B (.value v) (.value v')|skip:NR G B .skip .skip|enter (f:FuncId) (xs xs':bJ) (hf:G.good f=true) (h:AR G B xs xs'):NR G B (.enter f xs) (.enter f xs')|round (l l':Nat) (f:FuncId) (t t':bJ) (aq body:Code) (hl:B l l') (h:AR G B t t') (ha:G.code aq=true) (hb:G.code body=true):NR G B (.round l f t aq body) (.round l' f t' aq body)
structure Env.Fine (G:Env):Prop where
 code:G.free=false->∀f fn c,G.good f=true->G.P.funcs[f]?=some fn->fn.body=some c->G.code c=true
 mark:∀f fn c,G.good f=true->G.P.funcs[f]?=some fn->fn.body=some c->aV c=true
 nn:G.junk=true->G.nn=true
 name:∀f fn,G.good f=true->G.P.funcs[f]?=some fn->(fn.name== "runtime.NumGoroutine")=false
 next:∀f fn,G.good f=true->G.P.funcs[f]?=some fn->fn.body.isNone=true->Extern.findNext fn=none
 ext:∀f fn e,G.good f=true->G.P.funcs[f]?=some fn->fn.body.isNone=true->Extern.find fn=some e->∀B xs xs',AR G B xs xs'->SR G (QV G) B (e xs) (e xs')
section
variable {G:Env} {α β:Type} {Q:Blk->α->β->Prop} {B:Blk}
def QN(G:Env):Blk->Next->Next->Prop:=fun B a b=>NR G B a b
def lO{s a:Sem Value} (h:SR G (QV G) B s a):SR G (QN G) B (do Pure.pure (.value (<-s))) (do Pure.pure (.value (<-a))):=Za h fun c v v' d b=>Zy (.value _ _ b)
def PJ{s a:Sem Unit} (h:SR G QU B s a):SR G (QN G) B (do s;Pure.pure .skip) (do a;Pure.pure .skip):=Za h fun b v v' c d=>Zy .skip
def PM(b:G.Fine) {f:FuncId} (r:G.good f=true) {xs xs':bJ} (h:AR G B xs xs'):SR G (QN G) B (callFunc f xs) (callFunc f xs'):=by unfold callFunc;refine Za bI fun m p q c l=>?_;obtain⟨rfl,rfl⟩:=l;cases a:G.P.funcs[f]? with|none=>exact SR.halt _ (.stuck _) _ trivial|some fn=>dsimp only;have g:=b.name f fn r a;rw[g];refine bE (fun h=>by simp at h) fun _=>?_;refine bE (fun d=>?_) fun _=>Zy (.enter _ _ _ r (h.mono c));refine Za (yX trivial) fun n _ _ j _=>?_;rw[b.next f fn r a d];dsimp only;cases k:Extern.find fn with|some e=>exact lO (b.ext f fn e r a d k _ _ _ ((h.mono c).mono j))|none=>exact bE (fun _=>Zy (.value _ _ (Zh AR.empty))) fun _=>SR.halt _ (.unsupported (.extern _)) _ trivial
def IU:∀(ps:List Tmp) {vs vs':hD} {t a:bJ},LR G B vs vs'->AR G B t a->AR G B ((ps.zip vs).foldl (fun t x=>t.setIfInBounds x.1 x.2) t) ((ps.zip vs').foldl (fun t x=>t.setIfInBounds x.1 x.2) a)|[],_,_,_,_,_,h=>h|p::ps,_,_,_,_,.nil,h=>h|p::ps,_,_,_,_,.cons v v' vs vs' hv hs,h=>IU ps hs (h.set p hv)
def PN{l q:Nat} (c:B l q) {xs xs':bJ} (h:AR G B xs xs'):SR G (QN G) B (Instr.yield l xs) (Instr.yield q xs'):=by
 unfold Instr.yield Instr.getLoop;refine Za (Q:=fun B (r g:Loop)=>OR G B (.loop r) (.loop g)) (Za (iJ c) fun j o n a e=>?_) fun j r g a m=>?_
 .have k:=e;cases e<;>try exact SR.halt _ (.stuck _) _ trivial
  exact Zy k
 .cases m with|loop s p f t t' ps aq body d d' hp ht ha hb hd=>rw[h.size];dsimp only;refine bE (fun _=>SR.halt _ (.stuck _) _ trivial) fun _=>?_;refine Zy (.round _ _ _ _ _ _ _ (a _ _ c) ?_ ha hb);have b:=IU ps.toList (h.mono a).list ht;rw[<-Array.toList_zip,<-Array.toList_zip,Array.foldl_toList,Array.foldl_toList]at b;exact b
abbrev _root_.bM:=Array Bool
inductive TR (G:Env)(B:Blk):Target->Target->Prop|func (f:FuncId) (xs xs':bJ) (hf:G.good f=true) (h:AR G B xs xs'):TR G B (.fn (.func f) xs) (.fn (.func f) xs')|yield (l l':Nat) (xs xs':bJ) (hl:B l l'):TR G B (.fn (.yield l) xs) (.fn (.yield l') xs')|nil:TR G B .nil .nil|builtin (b:Builtin)(ts:cQ)(t:aN)(cs:bM)(hb:G.call {callee:=.builtin b,args:=#[],argTypes:=ts}=true):TR G B (.builtin b ts t cs) (.builtin b ts t cs)
def PO{b:Builtin} {g:cQ} {t:aN} {cs:bM} (f:G.call {callee:=.builtin b,args:=#[],argTypes:=g}=true) {xs xs':bJ} (h:AR G B xs xs'):SR G (QN G) B (builtin b g t cs xs) (builtin b g t cs xs'):=by
 unfold builtin;unfold Env.call at f;cases b<;>(try cases f);case append=>
  simp only[aY]at f;refine lO (OF (fun s a=>?_) (fun s k a c=>?_) h);·have:=f.1;rw[a]at this;exact this
  .have:=f.2;rw[a]at this;dsimp only at this;rw[c]at this;cases this
 .exact lO (OH (fun s d e a c=>by rw[a]at f;dsimp only at f;rw[c]at f;cases f) h)
 .exact lO (O6 h)
 .exact lO (OG (fun s d e a c=>by rw[a]at f;dsimp only at f;rw[c]at f;cases f) h)
 .exact lO (O4 h)
 .exact lO (O5 h)
 .exact lO (O8 (by simpa using f) h)
def vU(c:G.Fine) {d a:Target} (e:TR G B d a) {xs xs':bJ} (h:AR G B xs xs'):SR G (QN G) B (invoke d xs) (invoke a xs'):=by unfold invoke;cases e with|func f ys ys' hf hy=>exact PM c hf (h.append hy)|yield l l' ys ys' hl=>exact PN hl h|nil=>exact dE trivial|builtin b ts t cs hb=>exact PO hb h
abbrev _root_.aE:=Operand->Value
def Ops(G:Env) (B:Blk) (ρ a:aE):Prop:=∀x,G.operand x=true->VR G B (ρ x) (a x)
def vV{ρ d:aE} (h:Ops G B ρ d) {xs:Array Operand} (f:∀x∈xs,G.operand x=true):AR G B (xs.map ρ) (xs.map d):=by refine⟨Qd,fun i v v' c a=>?_⟩;rw[bD]at c a;obtain⟨x,b,rfl⟩:=e'.1 c;rw[b]at a;cases a;exact h x (f x (cP b))
def PQ{ρ w:aE} (h:Ops G B ρ w) {c:Call} (z:G.call c=true) (I:∀x∈c.operands,G.operand x=true) (t:aN):SR G (fun B (d y:Deferred)=>TR G B d.target y.target/\AR G B d.args y.args) B (resolve ρ c t) (resolve w c t):=by unfold resolve;obtain⟨a,e,D⟩:=c;have C:∀x∈e,G.operand x=true:=fun x m=>I x (by simp[Call.operands,m]);have k:=vV h C;cases a with|builtin b=>exact Zy ⟨.builtin b D t _ z,k⟩|invoke r n=>cases z|value f=>
  have g:=h f (I f (by simp[Call.operands]));dsimp only;unfold Deferred.ofValue;generalize ρ f=v at g |-;generalize w f=v' at g |-;cases g<;>try exact SR.halt _ (.stuck _) _ trivial
  .rename_i F A ys ys' H E j p q s u;refine Zy ⟨?_,AR.append ⟨p,q⟩ k⟩;cases j with
   |func f g=>exact .func f _ _ g ⟨s,u⟩|yield l l' hl=>exact .yield l l' _ _ hl
  .exact Zy ⟨.nil,k⟩
end
section
variable {G:Env} {α β:Type} {Q:Blk->α->β->Prop} {B:Blk}
def HK{ρ a:aE} (h:Ops G B ρ a):∀{ps:List (Nat×Operand)},(∀x∈ps,G.operand x.2=true)->PR G B (ps.map fun x=>(x.1,ρ x.2)) (ps.map fun x=>(x.1,a x.2))|[],_=>.nil|(i,x)::ps,hx=>.cons i _ _ _ _ (h x (hx (i,x) Qd)) (HK h fun y b=>hx y (by simp[b]))
def HL{ρ a:aE} (h:Ops G B ρ a) {o:Option Operand} (f:∀x,o=some x->G.operand x=true):OV G B (o.map ρ) (o.map a):=by cases o with|none=>trivial|some x=>exact h x (f x rfl)
def PS{ρ:aE} (k:∀g,G.dark g=true->ρ (.global g)=.pointer (some g)) {o:Oper} (a:G.darkOp o.op=true)(l:World)(j:∀g,G.dark g=true->l.heap[g]?=some (.deferred none)):(execOp ρ o).run G.P l=.halt (.stuck "load: no such cell") l:=by
 unfold Env.darkOp at a;split at a
 .rename_i t g c;simp only[aY]at a;obtain⟨b,d⟩:=a;split at d
  .rename_i n m;have e:execOp ρ o=(do Pure.pure (.value (<-Instr.loadAt t (ρ (.global g))))):=by unfold execOp;rw[c]
   rw[e,k g b];have f:l.cell? g=none:=by simp[World.cell?,j g b]
   have h:l.farLoad G.P ⟨g,0,none⟩ (Mode.plain==Mode.atomic)=.error (.stuck "load: no such cell"):=by simp[World.farLoad,World.noCell,j g b]
   simp only[Instr.loadAt,Instr.sureAddr,loadVar,isAgg,underlying,aD,program,Sem.run,Result.andThen,m,load,f,h];simp[Sem.run,f,h,Result.andThen,pure,Pure.pure,bind,Bind.bind,Sem.bind]
  .cases d
 .cases a
def PT(D:G.Fine) {ρ z:aE} (h:Ops G B ρ z) {o:Oper} (g:G.op0 o.op=true):SR G (QN G) B (execOp ρ o) (execOp z o):=by
 unfold Env.op0 at g;simp only[aY]at g;obtain⟨j,g⟩:=g;have f:∀x∈o.op.operands,G.operand x=true:=fun x w=>dS.1 j x w;clear j;obtain⟨F,K,M,L,p,q⟩:=o;dsimp only at g f;unfold execOp;dsimp only;cases K<;>(try cases g)<;>dsimp only;case move x=>exact Zy (.value _ _ (h x (f x Ql)))
 case assign x=>exact Zy (.value _ _ (h x (f x Ql)))
 case pick c a b=>
  refine ZL (p7 (h c (f c Ql))) fun A t m=>?_;refine Zy (.value _ _ ?_);split;·exact(h a (f a Ql)).mono m
  .exact(h b (f b Ql)).mono m
 case alloc e=>exact lO (NS g)
 case box e x=>exact lO (NT (h x (f x Ql)))
 case build t ps=>refine lO (N9 g ?_);have:=HK h (ps:=ps.toList) fun x j=>f x.2 (by simp[Op.operands];exact⟨x.1,by simpa using j⟩);simpa using this
 case buildSlice t l ps=>refine lO (OC g ?_);have:=HK h (ps:=ps.toList) fun x j=>f x.2 (by simp[Op.operands];exact⟨x.1,by simpa using j⟩);simpa using this
 case load t a=>exact lO (NU (h a (f a Ql)))
 case store t a x=>exact PJ (NV (h a (f a Ql)) (h x (f x Ql)))
 case nilCheck x=>
  have n:=h x (f x Ql);generalize ρ x=v at n |-;generalize z x=v' at n |-;have C:=n;cases n<;>first
   |exact Zy (.value _ _ C)|exact dE (e:=.nilDeref) trivial|(rename_i I _;rw[D.nn I]at g;simp at g;done)|skip
  rename_i r _ _ _ _;cases r<;>exact Zy (.value _ _ C)
 case binOp b t x y yt=>have j:=h x (f x Ql);have k:=h y (f y Ql);refine lO (Za (OT b t x y j k) fun A _ _ m _=>OZ b t (fun H=>?_) (j.mono m) (k.mono m));rcases H with rfl|rfl<;>simpa using g
 case unOp u t x=>exact lO (OI u (h x (f x Ql)))
 case convert s d x=>exact lO (PB g (h x (f x Ql)))
 case makeInterface t x=>exact lO (PC t (h x (f x Ql)))
 case makeFunc fn xs ys=>change G.fnOk fn=true at g;unfold Env.fnOk at g;cases fn<;>(try cases g);·exact lO (Zy (Zl (.func _ g) (vV h fun x j=>f x (by simp[Op.operands,j])) (vV h fun x j=>f x (by simp[Op.operands,j]))))
 case makeSlice t l c=>exact lO (OD g (h l (f l Ql)) (h c (f c Ql)))
 case slice t x lo hi mx=>exact lO (N8 (h x (f x Ql)) (HL h fun y k=>f y (by simp[Op.operands,k])) (HL h fun y k=>f y (by simp[Op.operands,k])) (HL h fun y k=>f y (by simp[Op.operands,k])) t)
 case fieldAddr t x i=>exact lO (NZ (h x (f x Ql)) t i g)
 case field t x i=>exact lO (NX (h x (f x Ql)) t i)
 case indexAddr t x y=>exact lO (N4 (h x (f x Ql)) (h y (f y Ql)) t)
 case index t x y=>exact lO (NY (h x (f x Ql)) (h y (f y Ql)) t)
 case range t x=>
  change (match G.P.underlying t with|some .string=>true|_=>false)=true at g;split at g;·exact lO (PF ‹_› (h x (f x Ql)))
  .cases g
 case next x=>exact lO (PG (h x (f x Ql)))
 case typeAssert x t a ok=>simp only[aY]at g;obtain⟨rfl,J⟩:=g;exact lO (PE J (h x (f x Ql)))
 case extract x i=>exact lO (NW (h x (f x Ql)) i)
 case call c=>exact Za (PQ h g (fun x j=>f x (by simpa [Op.operands] using j)) M) fun A d N m E=>vU D E.1 E.2
 case panic x=>exact lO (PI (h x (f x Ql)))
def p9(e:G.Fine) {ρ d:aE} (h:Ops G B ρ d) (b:∀g,G.dark g=true->ρ (.global g)=.pointer (some g)) {o:Oper} (c:G.op o.op=true):SR G (QN G) B (execOp ρ o) (execOp d o):=by
 unfold Env.op at c;rcases(fA _ _▸c:G.darkOp o.op=true∨G.op0 o.op=true)with a|a;·exact .dead _ _ _ fun l f=>⟨_,l,PS b a l f,trivial,fun _ _=>rfl⟩
 .exact PT e h a
end
end Go.Twin
