import Derived.Laws.Sem
import Derived.StepT
set_option linter.unusedVariables false
set_option linter.unusedSimpArgs false
set_option maxRecDepth 100000
set_option maxHeartbeats 16000000
namespace Go
theorem Zub:type_of% @Array.all_eq_true_iff_forall_mem:=@Array.all_eq_true_iff_forall_mem
theorem Zud:type_of% @Array.append_empty:=@Array.append_empty
theorem Zug:type_of% @Array.ext_getElem?:=@Array.ext_getElem?
theorem Zui:type_of% @Array.forIn_toList:=@Array.forIn_toList
theorem Zuj:type_of% @Array.getD_eq_getD_getElem?:=@Array.getD_eq_getD_getElem?
theorem Zum:type_of% @Array.getElem?_eq_getElem:=@Array.getElem?_eq_getElem
theorem Zuo:type_of% @Array.getElem?_eq_some_iff:=@Array.getElem?_eq_some_iff
theorem Zup:type_of% @Array.getElem?_map:=@Array.getElem?_map
theorem Zur:type_of% @Array.getElem?_modify:=@Array.getElem?_modify
theorem Zus:type_of% @Array.getElem?_push:=@Array.getElem?_push
theorem Zut:type_of% @Array.getElem?_push_lt:=@Array.getElem?_push_lt
theorem Zuv:type_of% @Array.getElem?_setIfInBounds:=@Array.getElem?_setIfInBounds
theorem Zuw:type_of% @Array.getElem?_setIfInBounds_ne:=@Array.getElem?_setIfInBounds_ne
theorem Zuy:type_of% @Array.getElem?_toList:=@Array.getElem?_toList
theorem ZuB:type_of% @Array.mem_append:=@Array.mem_append
theorem ZuD:type_of% @Array.mem_of_getElem?:=@Array.mem_of_getElem?
theorem ZuE:type_of% @Array.push_eq_append:=@Array.push_eq_append
theorem ZuM:type_of% @Bool.and_eq_true:=@Bool.and_eq_true
theorem ZuP:type_of% @Bool.eq_iff_iff:=@Bool.eq_iff_iff
theorem ZuQ:type_of% @Bool.false_eq_true:=@Bool.false_eq_true
theorem ZuV:type_of% @Bool.or_eq_true:=@Bool.or_eq_true
theorem Zvl:type_of% @List.cons.injEq:=@List.cons.injEq
theorem Zv6:type_of% @List.mapM_cons:=@List.mapM_cons
theorem Zv7:type_of% @List.mapM_nil:=@List.mapM_nil
theorem Zwa:type_of% @List.map_cons:=@List.map_cons
theorem ZwH:type_of% @Nat.add_comm:=@Nat.add_comm
theorem ZwK:type_of% @Nat.add_zero:=@Nat.add_zero
theorem ZwN:type_of% @Nat.le_of_eq:=@Nat.le_of_eq
theorem ZwO:type_of% @Nat.le_refl:=@Nat.le_refl
theorem ZwP:type_of% @Nat.le_trans:=@Nat.le_trans
theorem ZwR:type_of% @Nat.lt_irrefl:=@Nat.lt_irrefl
theorem ZwS:type_of% @Nat.lt_of_lt_of_le:=@Nat.lt_of_lt_of_le
theorem Zw2:type_of% @Nat.not_lt:=@Nat.not_lt
theorem Zw9:type_of% @Nat.zero_add:=@Nat.zero_add
theorem Zxb:type_of% @Nat.zero_mul:=@Nat.zero_mul
theorem Zxc:type_of% @Option.bind_some:=@Option.bind_some
theorem Zxf:type_of% @Option.map_eq_some_iff:=@Option.map_eq_some_iff
theorem Zxh:type_of% @Option.some.inj:=@Option.some.inj
abbrev zu:=undef
end Go
namespace Go.Twin
variable {v v':Value} {xs xs' ys ys':Array Value} {i:Nat}
structure Env where
 P:Program
 good:FuncId->Bool
 glob:Nat->Bool
 sh:Bool
 free:Bool
 junk:Bool
 nn:Bool
 dfr:FuncId->Bool
 dark:Nat->Bool
 tab:Code
 z0:Bool:=false
abbrev Blk:=Nat->Nat->Prop
def Blk.le(B B':Blk):Prop:=∀b b',B b b'->B' b b'
theorem Blk.le_refl(B:Blk):B.le B:=fun _ _ h=>h
theorem Blk.le_trans{B C D:Blk} (h:B.le C)(k:C.le D):B.le D:=fun _ _ x=>k _ _ (h _ _ x)
def bare:Value->Bool|.agg _|.iface ..|.nilIface|.bool _|.int ..|.string _=>false|_=>true
theorem Zmn(h:bare v=true):v.cells=#[v]:=by cases v<;>first|rfl|cases h
inductive FnR (G:Env)(B:Blk):Fn->Fn->Prop|func (f:FuncId) (h:G.good f=true):FnR G B (.func f) (.func f)|yield (l l':Nat) (h:B l l'):FnR G B (.yield l) (.yield l')
inductive AddrR (B:Blk):Addr->Addr->Prop|mk (b b' o:Nat) (s:Option Nat) (h:B b b'):AddrR B ⟨b,o,s⟩ ⟨b',o,s⟩
inductive VR (G:Env)(B:Blk):Value->Value->Prop|bool (b:Bool):VR G B (.bool b) (.bool b)|int (k:IntKind) (n:Int):VR G B (.int k n) (.int k n)|string (s:ByteArray):VR G B (.string s) (.string s)|nilPtr:VR G B (.pointer none) (.pointer none)|ptr (a a':Addr) (h:AddrR B a a'):VR G B (.pointer (some a)) (.pointer (some a'))|nilSlice (l c:Nat):VR G B (.slice none l c) (.slice none l c)|slice (a a':Addr) (l c:Nat) (h:AddrR B a a'):VR G B (.slice (some a) l c) (.slice (some a') l c)|slice0 (a:Addr) (hz:G.z0=true):VR G B (.slice (some a) 0 0) (.slice (some a) 0 0)|func (fn fn':Fn)(xs xs' ys ys':Array Value)(h:FnR G B fn fn')(hx:xs.size=xs'.size)(hxs:∀(i:Nat)(v v':Value),xs[i]?=some v->xs'[i]?=some v'->VR G B v v')(hy:ys.size=ys'.size) (hys:∀(i:Nat) (v v':Value),ys[i]?=some v->ys'[i]?=some v'->VR G B v v'):VR G B (.func fn xs ys) (.func fn' xs' ys')|nilFunc:VR G B .nilFunc .nilFunc|iface (t:TypeId) (v v':Value) (h:VR G B v v'):VR G B (.iface t v) (.iface t v')|nilIface:VR G B .nilIface .nilIface|chan (r:Option Nat):VR G B (.chan r) (.chan r)|junk (v:Value)(hf:G.junk=true)(hv:bare v=true):VR G B (.tuple #[]) v|agg (xs xs':Array Value) (hx:xs.size=xs'.size) (hxs:∀(i:Nat) (v v':Value),xs[i]?=some v->xs'[i]?=some v'->VR G B v v'):VR G B (.agg xs) (.agg xs')|tuple (xs xs':Array Value) (hx:xs.size=xs'.size) (hxs:∀(i:Nat) (v v':Value),xs[i]?=some v->xs'[i]?=some v'->VR G B v v'):VR G B (.tuple xs) (.tuple xs')
structure SubG (S E1 E2:Env):Prop where
 s:S.z0=false
 e:E1.z0=false
 good:∀f,S.good f=true->E2.good f=true
variable {G:Env} {B B':Blk}
theorem FnR.mono(h:B.le B') {f f':Fn} (x:FnR G B f f'):FnR G B' f f':=by cases x with|func f hf=>exact .func f hf|yield l l' hl=>exact .yield l l' (h _ _ hl)
theorem AddrR.mono(h:B.le B') {a a':Addr} (x:AddrR B a a'):AddrR B' a a':=by cases x with|mk b b' o s hb=>exact .mk b b' o s (h _ _ hb)
theorem VR.mono(h:B.le B')(x:VR G B v v'):VR G B' v v':=by induction x with|bool b=>exact .bool b|int k n=>exact .int k n|string s=>exact .string s|nilPtr=>exact .nilPtr|ptr a a' ha=>exact .ptr a a' (ha.mono h)|nilSlice l c=>exact .nilSlice l c|slice a a' l c ha=>exact .slice a a' l c (ha.mono h)|slice0 a hz=>exact .slice0 a hz|func fn fn' xs xs' ys ys' hf hx _ hy _ ih1 ih2=>exact .func fn fn' xs xs' ys ys' (hf.mono h) hx ih1 hy ih2|nilFunc=>exact .nilFunc|iface t v v' _ ih=>exact .iface t v v' ih|nilIface=>exact .nilIface|chan r=>exact .chan r|junk v hf hv=>exact .junk v hf hv|agg xs xs' hx _ ih=>exact .agg xs xs' hx ih|tuple xs xs' hx _ ih=>exact .tuple xs xs' hx ih
structure AR (G:Env)(B:Blk)(xs xs':Array Value):Prop where
 size:xs.size=xs'.size
 at_:∀(i:Nat)(v v':Value),xs[i]?=some v->xs'[i]?=some v'->VR G B v v'
theorem AR.mono(h:B.le B')(x:AR G B xs xs'):AR G B' xs xs':=⟨x.size,fun i v v' a b=>(x.at_ i v v' a b).mono h⟩
theorem AR.get(x:AR G B xs xs')(h:xs[i]?=some v):∃v',xs'[i]?=some v'/\VR G B v v':=by have hi:i<xs.size:=(Zuo.1 h).1;have hi':i<xs'.size:=x.size▸hi;exact⟨xs'[i],Zum hi',x.at_ i _ _ h (Zum hi')⟩
theorem AR.none(x:AR G B xs xs')(h:xs[i]?=.none):xs'[i]?=.none:=by rw[Array.getElem?_eq_none_iff]at h |-;rw[<-x.size];exact h
theorem AR.empty:AR G B #[] #[]:=⟨rfl,fun i v v' h=>by simp at h⟩
theorem AR.getD(x:AR G B xs xs') (i:Nat) {d d':Value} (hd:VR G B d d'):VR G B (xs.getD i d) (xs'.getD i d'):=by rw[Zuj,Zuj];cases h:xs[i]? with|none=>rw[x.none h];exact hd|some v=>obtain⟨v',h',hv⟩:=x.get h;rw[h'];exact hv
theorem AR.push(x:AR G B xs xs') (h:VR G B v v'):AR G B (xs.push v) (xs'.push v'):=by
 refine⟨by simp[x.size],fun i u u' hu hu'=>?_⟩;rw[Zus]at hu hu';rw[<-x.size]at hu';split at hu;·rename_i hi;rw[if_pos hi]at hu';cases hu;cases hu';exact h
 ·rename_i hi;rw[if_neg hi]at hu';exact x.at_ i u u' hu hu'
theorem AR.append(x:AR G B xs xs') (y:AR G B ys ys'):AR G B (xs++ys) (xs'++ys'):=by
 refine⟨by simp[x.size,y.size],fun i u u' hu hu'=>?_⟩;rw[Array.getElem?_append]at hu hu';rw[<-x.size]at hu';split at hu;·rename_i hi;rw[if_pos hi]at hu';exact x.at_ i u u' hu hu'
 ·rename_i hi;rw[if_neg hi]at hu';exact y.at_ _ u u' hu hu'
theorem AR.set(x:AR G B xs xs') (k:Nat) (h:VR G B v v'):AR G B (xs.setIfInBounds k v) (xs'.setIfInBounds k v'):=by
 refine⟨by simp[x.size],fun i u u' hu hu'=>?_⟩;rw[Zuv]at hu hu';rw[<-x.size]at hu';split at hu
 ·rename_i hi;rw[if_pos hi]at hu';split at hu;·rename_i hk;rw[if_pos hk]at hu';cases hu;cases hu';exact h
  ·cases hu
 ·rename_i hi;rw[if_neg hi]at hu';exact x.at_ i u u' hu hu'
theorem AR.extract(x:AR G B xs xs') (a b:Nat):AR G B (xs.extract a b) (xs'.extract a b):=by
 refine⟨by simp[x.size],fun i u u' hu hu'=>?_⟩;rw[Array.getElem?_extract]at hu hu';rw[<-x.size]at hu';split at hu;·rename_i hi;rw[if_pos hi]at hu';exact x.at_ _ u u' hu hu'
 ·cases hu
theorem AR.replicate(n:Nat) (h:VR G B v v):AR G B (Array.replicate n v) (Array.replicate n v):=by
 refine⟨rfl,fun i u u' hu hu'=>?_⟩;rw[Array.getElem?_replicate]at hu hu';split at hu;·rename_i hi;rw[if_pos hi]at hu';cases hu;cases hu';exact h
 ·cases hu
theorem AR.one(h:VR G B v v'):AR G B #[v] #[v']:=AR.push AR.empty h
theorem Zf(x:AR G B xs xs'):VR G B (.agg xs) (.agg xs'):=.agg _ _ x.size x.at_
theorem Zh(x:AR G B xs xs'):VR G B (.tuple xs) (.tuple xs'):=.tuple _ _ x.size x.at_
theorem Zl{fn fn':Fn} (h:FnR G B fn fn') (x:AR G B xs xs') (y:AR G B ys ys'):VR G B (.func fn xs ys) (.func fn' xs' ys'):=.func _ _ _ _ _ _ h x.size x.at_ y.size y.at_
theorem VR.cells(h:VR G B v v'):AR G B v.cells v'.cells:=by
 cases h;case junk hf hv=>rw[Zmn hv];exact AR.one (.junk _ hf hv)
 case slice0 a hz=>exact AR.one (.slice0 a hz)
 case agg hx hxs=>exact⟨hx,hxs⟩
 all_goals exact AR.one (by constructor<;>assumption)
theorem VR.bare(h:VR G B v v'):bare v=bare v':=by cases h<;>first|rfl|(rename_i hv;exact hv.symm)
theorem undefR:VR G B undef undef:=Zh AR.empty
def Zbh:Nat->Value->Bool|0,_=>false|n+1,v=>match v with|.bool _|.int ..|.string _|.pointer none|.slice none ..|.nilFunc|.nilIface|.chan none=>true|.iface _ v=>Zbh n v|.agg xs|.tuple xs=>xs.all (Zbh n)|_=>false
theorem VR.closed:∀(n:Nat)(v:Value),Zbh n v=true->VR G B v v
 |0,_,h=>by simp[Zbh]at h|n+1,v,h=>by
  unfold Zbh at h;split at h;·exact .bool _
  ·exact .int _ _
  ·exact .string _
  ·exact .nilPtr
  ·exact .nilSlice _ _
  ·exact .nilFunc
  ·exact .nilIface
  ·exact .chan _
  ·exact .iface _ _ _ (VR.closed n _ h)
  ·rename_i xs;refine .agg _ _ rfl fun i u u' hu hu'=>?_;rw[hu]at hu';cases hu';exact VR.closed n u (Zub.1 h u (ZuD hu))
  ·rename_i xs;refine .tuple _ _ rfl fun i u u' hu hu'=>?_;rw[hu]at hu';cases hu';exact VR.closed n u (Zub.1 h u (ZuD hu))
  ·cases h
theorem VR.eq_of(hF:G.junk=false)(hB:∀b b',B b b'->b=b')(h:VR G B v v'):v=v':=by
 have hA:∀{a a':Addr},AddrR B a a'->a=a':=fun h=>by cases h with|mk b b' o s hb=>rw[hB _ _ hb]
 have hE:∀{xs xs':Array Value},xs.size=xs'.size->(∀(i:Nat)(v v':Value),xs[i]?=some v->xs'[i]?=some v'->v=v')->xs=xs':=fun {xs xs'} hs hx=>Array.ext hs fun i h1 h2=>hx i _ _ (Zum h1) (Zum h2);induction h with
 |ptr a a' h=>rw[hA h]|slice a a' l c h=>rw[hA h]|func fn fn' xs xs' ys ys' hf hx _ hy _ ih1 ih2=>rw[hE hx ih1,hE hy ih2];cases hf with
  |func f _=>rfl|yield l l' hl=>rw[hB _ _ hl]
 |iface t v v' _ ih=>rw[ih]|agg xs xs' hx _ ih=>rw[hE hx ih]|tuple xs xs' hx _ ih=>rw[hE hx ih]|junk v hf hv=>rw[hF]at hf;cases hf|_=>rfl
def Env.operand(G:Env):Operand->Bool|.tmp _=>true|.const v=>Zbh 8 v|.global g=>G.glob g|.func f=>G.good f
def Env.fnOk(G:Env):Fn->Bool|.func f=>G.good f|_=>false
def Env.zero(G:Env)(t:TypeId):Bool:=match (G.P.info? t).bind (·.zero)with|some v=>Zbh 8 v|none=>true
def Env.zeroElem(G:Env)(t:TypeId):Bool:=match G.P.underlying t with|some (.slice e)=>G.zero e|_=>true
def Env.sized(G:Env)(t:TypeId)(i:Nat):Bool:=match G.P.underlying t with
 | some (.struct fs) => match fs[i]? with | some f => (match G.P.info? f.type with | some i => i.size != 0 | none => true) | none => true
 |_=>true
def Env.flat(G:Env):Nat->TypeId->Bool|0,_=>false|n+1,t=>match G.P.underlying t with|some (.int _)|some .bool|some .string|some (.slice _)=>true|some (.struct fs)=>fs.all fun f=>G.flat n f.type|some (.array _ e)=>G.flat n e|_=>false
def Env.conv(G:Env)(src dst:TypeId):Bool:=match G.P.underlying src,G.P.underlying dst with
 |some (.int _),some (.int _)|some (.int _),some .string|some .string,some .string=>true|some .string,some (.slice e)|some (.slice e),some .string=>match G.P.underlying e with|some (.int .u8)=>true|_=>false
 |_,_=>false
def Env.call(G:Env)(c:Call):Bool:=match c.callee with|.value _=>true|.invoke _ _=>false|.builtin b=>match b with
   |.append=>(match c.argTypes[0]? with|some t=>G.zeroElem t|none=>true)&&(match c.argTypes[1]? with|some t=>(match G.P.underlying t with|some (.int _)=>false|_=>true)|none=>true)|.cap|.len=>match c.argTypes[0]? with|some t=>(match G.P.underlying t with|some (.chan _ _)=>false|_=>true)|none=>true
   |.max|.min|.copy=>true|.unsafeString=>!G.sh|_=>false
def Env.darkOp(G:Env)(o:Op):Bool:=match o with|.load t (.global g)=>G.dark g&&(match G.P.underlying t with|some (.interface _)=>true|_=>false)|_=>false
def Env.op0(G:Env)(o:Op):Bool:=o.operands.all G.operand&&match o with
  |.move _|.assign _|.pick ..|.box ..|.load ..|.store ..|.unOp ..|.makeInterface ..|.indexAddr ..|.index ..|.field ..|.slice ..|.extract ..|.panic _=>true|.nilCheck _=>!G.nn|.alloc e=>G.zero e|.build t _=>G.zero t|.buildSlice t _ _=>G.zeroElem t|.makeSlice t _ _=>G.zeroElem t|.binOp op t _ _ _=>match op with|.eql|.neq=>!G.sh||G.flat 8 t|_=>true
  |.convert s d _=>G.conv s d|.typeAssert _ _ a ok=>ok&&G.zero a|.makeFunc fn _ _=>G.fnOk fn|.fieldAddr t _ i=>G.sized t i|.range t _=>match G.P.underlying t with|some .string=>true|_=>false
  |.next _ s=>s|.call c=>G.call c|_=>false
def Env.op(G:Env)(o:Op):Bool:=G.darkOp o||G.op0 o
def Env.code(G:Env):Code->Bool|.skip|.label _|.ret|.exit _=>true| .refuse why => why != "#"|.goto _=>false|.region _ ops _=>ops.all fun o=>G.op o.op|.seq a b=>G.code a&&G.code b|.cond c a b=>G.operand c&&G.code a&&G.code b|.block _ c|.loop c|.scope c=>G.code c|.rangeFunc f _ a b=>G.operand f&&G.code a&&G.code b
def Zag:Code->Bool| .refuse why => why != "#"|.seq a b=>Zag a&&Zag b|.cond _ a b=>Zag a&&Zag b|.block _ c|.loop c|.scope c=>Zag c|.rangeFunc _ _ a b=>Zag a&&Zag b|_=>true
theorem ZbC{G:Env}:∀(c:Code),G.code c=true->Zag c=true|.skip,_|.label _,_|.ret,_|.exit _,_|.goto _,_|.region ..,_=>rfl|.refuse why,h=>h|.seq a b,h=>by simp only[Env.code,ZuM]at h;simp only[Zag,ZbC a h.1,ZbC b h.2,Bool.and_self]|.cond c a b,h=>by simp only[Env.code,ZuM]at h;simp only[Zag,ZbC a h.1.2,ZbC b h.2,Bool.and_self]|.block _ c,h=>by simp only[Env.code]at h;simp only[Zag,ZbC c h]|.loop c,h=>by simp only[Env.code]at h;simp only[Zag,ZbC c h]|.scope c,h=>by simp only[Env.code]at h;simp only[Zag,ZbC c h]|.rangeFunc f _ a b,h=>by simp only[Env.code,ZuM]at h;simp only[Zag,ZbC a h.1.2,ZbC b h.2,Bool.and_self]
inductive OR (G:Env)(B:Blk):Obj->Obj->Prop|cells (c c':Array Value) (T:TypeId) (f:Nat×Nat) (h:AR G B c c'):OR G B (.cells c T f) (.cells c' T f)|deferred:OR G B (.deferred (some [])) (.deferred (some []))|taken:OR G B (.deferred none) (.deferred none)|loop (s:LoopState)(p:Option Code)(f:FuncId)(t t':Array Value)(ps:Array Tmp)(as body:Code)(d d':Nat)(hp:∀c,p=some c->G.code c=true)(ht:AR G B t t')(ha:G.code as=true)(hb:G.code body=true)(hd:B d d'):OR G B (.loop {state:=s,pending:=p,fn:=f,tmps:=t,params:=ps,assign:=as,body,defers:=d}) (.loop {state:=s,pending:=p,fn:=f,tmps:=t',params:=ps,assign:=as,body,defers:=d'})|iter (s:ByteArray) (p:Nat):OR G B (.stringIter s p) (.stringIter s p)|number (a a':Addr) (lost:Bool) (h:AddrR B a a'):OR G B (.number a lost) (.number a' lost)
theorem OR.mono{G:Env} {B B':Blk} (h:B.le B') {o o':Obj} (x:OR G B o o'):OR G B' o o':=by cases x with|cells c c' T f hc=>exact .cells c c' T f (hc.mono h)|deferred=>exact .deferred|taken=>exact .taken|loop s p f t t' ps as body d d' hp ht ha hb hd=>exact .loop s p f t t' ps as body d d' hp (ht.mono h) ha hb (h _ _ hd)|iter s p=>exact .iter s p|number a a' lost ha=>exact .number a a' lost (ha.mono h)
structure Side where
 sh:Nat->Prop
 till:Nat->Prop
instance:CoeFun Side (fun _=>Nat->Prop):=⟨Side.sh⟩
def ZbX(S:Side)(a b:Nat):Prop:=∀j,a<=j->j<b->S.till j
theorem ZbX.sub{S:Side} {a b c d:Nat} (h:ZbX S a b) (h1:a<=c) (h2:d<=b):ZbX S c d:=fun j x y=>h j (ZwP h1 x) (ZwS y h2)
structure WR (G:Env)(S:Side)(B:Blk)(l w:World):Prop where
 fn:∀b b' c',B b b'->B b c'->b'=c'
 inj:∀b c b',B b b'->B c b'->b=c
 dom:∀b b',B b b'->b<l.heap.size/\b'<w.heap.size
 obj:∀b b',B b b'->¬S b->∃o o',l.heap[b]?=some o/\w.heap[b']?=some o'/\OR G B o o'
 shr:∀b b',B b b'->S b->∃c c' T f,l.heap[b]?=some (.cells c T (0,c.size+1))/\w.heap[b']?=some (.cells c' T f)/\AR G B c c'
 str:∀i q,S.till (l.drawn+i)->l.tape (l.drawn+i) q=w.tape (w.drawn+i) q
 glob:∀g,G.glob g=true->B g g
 low:∀b b',B b b'->(b<G.P.globals.size↔b'<G.P.globals.size)
 gsz:G.P.globals.size<=l.heap.size/\G.P.globals.size<=w.heap.size
 sh:G.sh=false->(∀b,¬S b)/\l.heap.size=w.heap.size/\∀b b',B b b'->b=b'
 dark:∀g,G.dark g=true->l.heap[g]?=some (.deferred none)/\∀b',¬B g b'
def Halt.quiet:Halt->Prop|.stuck _=>True|.panic _=>True|.unsupported (.initOrder _)=>False|.unsupported _=>True|_=>False
def Mark.quiet:Mark->Prop|.extern _|.noRoom=>True|_=>False
structure Bij (G:Env)(B:Blk):Prop where
 fn:∀b b' c',B b b'->B b c'->b'=c'
 inj:∀b c b',B b b'->B c b'->b=c
 idn:G.sh=false->∀b b',B b b'->b=b'
 low:∀b b',B b b'->(b<G.P.globals.size↔b'<G.P.globals.size)
 glob:∀g,G.glob g=true->B g g
inductive SR (G:Env) {α β:Type} (Q:Blk->α->β->Prop):Blk->Sem α->Sem β->Prop|pure (B:Blk) (a:α) (b:β) (h:Q B a b):SR G Q B (.pure a) (.pure b)|load (B:Blk) (a a':Addr) (k:Value->Sem α) (k':Value->Sem β) (ha:AddrR B a a') (h:∀v v',VR G B v v'->SR G Q B (k v) (k' v')):SR G Q B (.load .plain a k) (.load .plain a' k')|store (B:Blk) (a a':Addr) (v v':Value) (k:Sem α) (k':Sem β) (ha:AddrR B a a') (hv:VR G B v v') (h:SR G Q B k k'):SR G Q B (.store .plain a v k) (.store .plain a' v' k')|new (B:Blk) (o o':Obj) (k:Nat->Sem α) (k':Nat->Sem β) (ho:OR G B o o') (h:∀(B':Blk) (r r':Nat),B.le B'->B' r r'->SR G Q B' (k r) (k' r')):SR G Q B (.new o k) (.new o' k')|shape (B:Blk) (r r':Nat) (k:Option (TypeId×Nat)->Sem α) (k':Option (TypeId×Nat)->Sem β) (hr:B r r') (h:∀s,SR G Q B (k s) (k' s)):SR G Q B (.shape r k) (.shape r' k')|freeze (B:Blk) (a a':Addr) (n:Nat) (k:Sem α) (k':Sem β) (hs:G.sh=false) (ha:AddrR B a a') (h:SR G Q B k k'):SR G Q B (.freeze a n k) (.freeze a' n k')|frozen (B:Blk) (a a':Addr) (k:Bool->Sem α) (k':Bool->Sem β) (ha:AddrR B a a') (h:∀n n':Bool,(G.sh=false->n=n')->SR G Q B (k n) (k' n')):SR G Q B (.frozen a k) (.frozen a' k')|getObj (B:Blk) (r r':Nat) (k:Obj->Sem α) (k':Obj->Sem β) (hr:B r r') (h:∀o o',OR G B o o'->SR G Q B (k o) (k' o')):SR G Q B (.getObj r k) (.getObj r' k')|setObj (B:Blk) (r r':Nat) (o o':Obj) (k:Sem α) (k':Sem β) (hr:B r r') (ho:OR G B o o') (h:SR G Q B k k'):SR G Q B (.setObj r o k) (.setObj r' o' k')|choose (B:Blk) (q:Question) (k:Nat->Sem α) (k':Nat->Sem β) (h:∀n,SR G Q B (k n) (k' n)):SR G Q B (.choose q k) (.choose q k')|program (B:Blk) (k:Program->Sem α) (k':Program->Sem β) (h:SR G Q B (k G.P) (k' G.P)):SR G Q B (.program k) (.program k')|mark (B:Blk) (m:Mark) (k:Sem α) (k':Sem β) (hm:Mark.quiet m) (h:SR G Q B k k'):SR G Q B (.mark m k) (.mark m k')|halt (B:Blk)(h:Halt)(s':Sem β)(hq:Halt.quiet h):SR G Q B (.halt h) s'|bij (B:Blk)(s:Sem α)(s':Sem β)(h:Bij G B->SR G Q B s s'):SR G Q B s s'|newF (B:Blk)(c c':Array Value)(T:TypeId)(k:Nat->Sem α)(k':Nat->Sem β)(k1:Nat->Option (TypeId×Nat)->Sem α)(k1':Nat->Option (TypeId×Nat)->Sem β)(hc:AR G B c c')(h1:∀r,k1 r (some (T,c.size))=.freeze ⟨r,c.size,none⟩ 1 (k r)) (h1':∀r,k1' r (some (T,c'.size))=.freeze ⟨r,c'.size,none⟩ 1 (k' r)) (h:∀(B':Blk) (r r':Nat),B.le B'->B' r r'->SR G Q B' (k r) (k' r')):SR G Q B (.new (.cells c T) fun r=>.shape r (k1 r)) (.new (.cells c' T) fun r=>.shape r (k1' r))|dead (B:Blk)(s:Sem α)(s':Sem β)(h:∀l:World,(∀g,G.dark g=true->l.heap[g]?=some (.deferred none))->∃x l',s.run G.P l=.halt x l'/\Halt.quiet x/\∀b,b<l.heap.size->l'.heap[b]?=l.heap[b]?):SR G Q B s s'
section
variable {G:Env} {α β γ δ:Type}
theorem SR.bind{Q:Blk->α->β->Prop} {Q':Blk->γ->δ->Prop} {B:Blk} {s:Sem α} {s':Sem β} {f:α->Sem γ} {f':β->Sem δ} (h:SR G Q B s s')(hf:∀(B':Blk) (a:α) (b:β),B.le B'->Q B' a b->SR G Q' B' (f a) (f' b)):SR G Q' B (s.bind f) (s'.bind f'):=by induction h with|pure B a b h=>exact hf B a b (Blk.le_refl _) h|load B a a' k k' ha h ih=>exact .load B a a' _ _ ha fun v v' hv=>ih v v' hv hf|store B a a' v v' k k' ha hv h ih=>exact .store B a a' v v' _ _ ha hv (ih hf)|new B o o' k k' ho h ih=>exact .new B o o' _ _ ho fun B' r r' hB hr=>ih B' r r' hB hr fun B'' a b hB'=>hf B'' a b (Blk.le_trans hB hB')|shape B r r' k k' hr h ih=>exact .shape B r r' _ _ hr fun s=>ih s hf|freeze B a a' n k k' hs ha h ih=>exact .freeze B a a' n _ _ hs ha (ih hf)|frozen B a a' k k' ha h ih=>exact .frozen B a a' _ _ ha fun n n' hn=>ih n n' hn hf|getObj B r r' k k' hr h ih=>exact .getObj B r r' _ _ hr fun o o' ho=>ih o o' ho hf|setObj B r r' o o' k k' hr ho h ih=>exact .setObj B r r' o o' _ _ hr ho (ih hf)|choose B q k k' h ih=>exact .choose B q _ _ fun n=>ih n hf|program B k k' h ih=>exact .program B _ _ (ih hf)|mark B m k k' hm h ih=>exact .mark B m _ _ hm (ih hf)|halt B h s' hh=>exact .halt B h _ hh|bij B s s' h ih=>exact .bij B _ _ fun hb=>ih hb hf|newF B c c' T k k' k1 k1' hc h1 h1' h ih=>exact .newF B c c' T (fun r=>(k r).bind f) (fun r=>(k' r).bind f') (fun r s=>(k1 r s).bind f) (fun r s=>(k1' r s).bind f') hc (fun r=>by rw[h1];rfl) (fun r=>by rw[h1'];rfl) fun B' r r' hB hr=>ih B' r r' hB hr fun B'' a b hB'=>hf B'' a b (Blk.le_trans hB hB')|dead B s s' h=>refine .dead B _ _ fun l hd=>?_;obtain⟨x,l',h1,h2,h3⟩:=h l hd;exact⟨x,l',by rw[Sem.run_bind',h1];rfl,h2,h3⟩
theorem Za{Q:Blk->α->β->Prop} {Q':Blk->γ->δ->Prop} {B:Blk} {s:Sem α} {s':Sem β} {f:α->Sem γ} {f':β->Sem δ} (h:SR G Q B s s')(hf:∀(B':Blk) (a:α) (b:β),B.le B'->Q B' a b->SR G Q' B' (f a) (f' b)):SR G Q' B (s>>=f) (s'>>=f'):=SR.bind h hf
theorem SR.mono{Q Q':Blk->α->β->Prop} {B:Blk} {s:Sem α} {s':Sem β} (h:SR G Q B s s')(hq:∀B' a b,B.le B'->Q B' a b->Q' B' a b):SR G Q' B s s':=by induction h with|pure B a b h=>exact .pure B a b (hq B a b (Blk.le_refl _) h)|load B a a' k k' ha h ih=>exact .load B a a' _ _ ha fun v v' hv=>ih v v' hv hq|store B a a' v v' k k' ha hv h ih=>exact .store B a a' v v' _ _ ha hv (ih hq)|new B o o' k k' ho h ih=>exact .new B o o' _ _ ho fun B' r r' hB hr=>ih B' r r' hB hr fun B'' a b hB'=>hq B'' a b (Blk.le_trans hB hB')|shape B r r' k k' hr h ih=>exact .shape B r r' _ _ hr fun s=>ih s hq|freeze B a a' n k k' hs ha h ih=>exact .freeze B a a' n _ _ hs ha (ih hq)|frozen B a a' k k' ha h ih=>exact .frozen B a a' _ _ ha fun n n' hn=>ih n n' hn hq|getObj B r r' k k' hr h ih=>exact .getObj B r r' _ _ hr fun o o' ho=>ih o o' ho hq|setObj B r r' o o' k k' hr ho h ih=>exact .setObj B r r' o o' _ _ hr ho (ih hq)|choose B q k k' h ih=>exact .choose B q _ _ fun n=>ih n hq|program B k k' h ih=>exact .program B _ _ (ih hq)|mark B m k k' hm h ih=>exact .mark B m _ _ hm (ih hq)|halt B h s' hh=>exact .halt B h _ hh|bij B s s' h ih=>exact .bij B _ _ fun hb=>ih hb hq|newF B c c' T k k' k1 k1' hc h1 h1' h ih=>exact .newF B c c' T k k' k1 k1' hc h1 h1' fun B' r r' hB hr=>ih B' r r' hB hr fun B'' a b hB'=>hq B'' a b (Blk.le_trans hB hB')|dead B s s' h=>exact .dead B _ _ h
end
def Zbu(S:Side)(B:Blk)(e:Event):Prop:=match e.loc with|.cell a=>e.sync=false/\∃b,B b a.block/\(e.write=true->¬S b)|.obj r=>e.sync=false/\∃b,B b r/\¬S b|.mark m=>Mark.quiet m|_=>False
theorem Zbu.mono{S:Side} {B B':Blk} (h:B.le B') {e:Event} (x:Zbu S B e):Zbu S B' e:=by
 unfold Zbu at*;split at x;·obtain⟨h1,b,h2,h3⟩:=x;exact⟨h1,b,h _ _ h2,h3⟩
 ·obtain⟨h1,b,h2,h3⟩:=x;exact⟨h1,b,h _ _ h2,h3⟩
 ·exact x
 ·exact x
structure Ran (G:Env)(S:Side)(B:Blk)(l w:World)(B':Blk)(l' w':World)(new:Array Event):Prop where
 le:B.le B'
 wr:WR G S B' l' w'
 al:∀b b',B' b b'->B b b'∨(l.heap.size<=b/\w.heap.size<=b'/\b+w.heap.size=b'+l.heap.size)
 keep:∀b',b'<w.heap.size->(∀b,B b b'->S b)->w'.heap[b']?=w.heap[b']?
 size:w.heap.size<=w'.heap.size/\l.heap.size<=l'.heap.size/\w'.heap.size+l.heap.size=l'.heap.size+w.heap.size
 same:w'.os=w.os/\w'.output=w.output/\w'.tape=w.tape/\w.drawn<=w'.drawn
 lone:l'.os=l.os/\l'.output=l.output/\l'.tape=l.tape/\l.drawn<=l'.drawn
 draws:w'.drawn+l.drawn=l'.drawn+w.drawn
 lkeep:∀b,b<l.heap.size->(∀b',B b b'->S b)->l'.heap[b]?=l.heap[b]?
 cov:∀b,l.heap.size<=b->b<l'.heap.size->∃b',B' b b'
 ev:∀e∈new,Zbu S B' e
section
variable {G:Env} {S:Side}
theorem Ran.refl{B:Blk} {l w:World} (h:WR G S B l w):Ran G S B l w B l w #[]:=⟨Blk.le_refl _,h,fun _ _ x=>.inl x,fun _ _ _=>rfl,⟨ZwO _,ZwO _,ZwH _ _⟩,⟨rfl,rfl,rfl,ZwO _⟩,⟨rfl,rfl,rfl,ZwO _⟩,ZwH _ _,fun _ _ _=>rfl,fun b h1 h2=>absurd h2 (Zw2.2 h1),fun e h=>by simp at h⟩
theorem Ran.trans{B B' B'':Blk} {l w l' w' l'' w'':World} {n n':Array Event} (h:Ran G S B l w B' l' w' n)(k:Ran G S B' l' w' B'' l'' w'' n'):Ran G S B l w B'' l'' w'' (n++n'):=by
 obtain⟨s1,s2,s3⟩:=h.size;obtain⟨t1,t2,t3⟩:=k.size;refine⟨Blk.le_trans h.le k.le,k.wr,fun b b' x=>?_,fun b' hb hS=>?_,⟨by omega,by omega,by omega⟩,⟨k.same.1.trans h.same.1,k.same.2.1.trans h.same.2.1,k.same.2.2.1.trans h.same.2.2.1,ZwP h.same.2.2.2 k.same.2.2.2⟩,⟨k.lone.1.trans h.lone.1,k.lone.2.1.trans h.lone.2.1,k.lone.2.2.1.trans h.lone.2.2.1,ZwP h.lone.2.2.2 k.lone.2.2.2⟩,by have:=h.draws;have:=k.draws;omega,fun b hb hS=>?_,fun b hb hb'=>?_,fun e he=>?_⟩
 ·rcases k.al b b' x with y|⟨y1,y2,y3⟩;·exact h.al b b' y
  ·exact .inr ⟨by omega,by omega,by omega⟩
 ·rw[k.keep b' (by omega) fun b x=>?_,h.keep b' hb hS];rcases h.al b b' x with y|⟨y1,y2,y3⟩;·exact hS b y
  ·omega
 ·rw[k.lkeep b (by omega) fun b' x=>?_,h.lkeep b hb hS];rcases h.al b b' x with y|⟨y1,y2,y3⟩;·exact hS b' y
  ·omega
 ·by_cases hlt:b<l'.heap.size;·obtain⟨b',x⟩:=h.cov b hb hlt;exact⟨b',k.le _ _ x⟩
  ·exact k.cov b (by omega) hb'
 ·rcases ZuB.1 he with x|x;·exact(h.ev e x).mono k.le
  ·exact k.ev e x
theorem Zgz{B:Blk} {l w:World} (h:WR G S B l w) {a a':Addr} (ha:AddrR B a a') {v:Value} (hv:l.cell? a=some v):∃v',w.cell? a'=some v'/\VR G B v v':=by cases ha with|mk b b' o s hb=>
  have key:∀c c' T f T' f',l.heap[b]?=some (.cells c T f)->w.heap[b']?=some (.cells c' T' f')->AR G B c c'->∃v',w.cell? ⟨b',o,s⟩=some v'/\VR G B v v':=by
   intro c c' T f T' f' h1 h2 hc;simp only[World.cell?,h1]at hv;split at hv;·cases hv
   ·rename_i hs;obtain⟨v',h3,h4⟩:=hc.get hv;exact⟨v',by simp[World.cell?,h2,hs,h3],h4⟩
  by_cases hS:S b;·obtain⟨c,c',T,f,h1,h2,hc⟩:=h.shr b b' hb hS;exact key _ _ _ _ _ _ h1 h2 hc
  ·obtain⟨o1,o2,h1,h2,ho⟩:=h.obj b b' hb hS;cases ho with|cells c c' T f hc=>exact key _ _ _ _ _ _ h1 h2 hc|_=>simp[World.cell?,h1]at hv
theorem Ziy{B:Blk} {l w:World} (h:WR G S B l w) {a a':Addr} (ha:AddrR B a a')(what:String):Halt.quiet (l.noCell a what)/\∀at_ u,l.heap[a.block]?≠some (.view at_ u):=by cases ha with|mk b b' o s hb=>
  have:∃o,l.heap[b]?=some o/\(∀c e,o≠.pending c e)/\(∀x y,o≠.view x y):=by
   by_cases hS:S b;·obtain⟨c,c',T,f,h1,h2,hc⟩:=h.shr b b' hb hS;exact⟨_,h1,by simp,by simp⟩
   ·obtain⟨o1,o2,h1,h2,ho⟩:=h.obj b b' hb hS;refine⟨_,h1,?_,?_⟩<;>cases ho<;>simp
  obtain⟨o1,h1,h2,h3⟩:=this;refine⟨?_,fun x y hx=>?_⟩;·unfold World.noCell;simp only[h1];cases o1<;>simp_all[Halt.quiet]
  ·rw[h1]at hx;exact h3 _ _ (Zxh hx)
theorem Zmo{B:Blk} {l w:World} (h:WR G S B l w) {a a':Addr} (ha:AddrR B a a')(at_:Bool):∃x,l.farLoad G.P a at_=.error x/\Halt.quiet x:=by
 obtain⟨h1,h2⟩:=Ziy h ha "load: no such cell";refine⟨_,?_,h1⟩;unfold World.farLoad;split;·rename_i x y hx;exact absurd hx (h2 _ _)
 ·rfl
theorem Zmp{B:Blk} {l w:World} (h:WR G S B l w) {a a':Addr} (ha:AddrR B a a')(v:Value)(at_:Bool):∃x,l.farStore G.P a v at_=.error x/\Halt.quiet x:=by
 obtain⟨h1,h2⟩:=Ziy h ha "store: no such cell";refine⟨_,?_,h1⟩;unfold World.farStore;split;·rename_i x y hx;exact absurd hx (h2 _ _)
 ·rfl
theorem Zmq{B:Blk} {l w:World} (h:WR G S B l w) {r r':Nat} (hr:B r r'):l.shape? r=w.shape? r':=by
 by_cases hS:S r;·obtain⟨c,c',T,f,h1,h2,hc⟩:=h.shr r r' hr hS;simp[World.shape?,h1,h2,hc.size]
 ·obtain⟨o1,o2,h1,h2,ho⟩:=h.obj r r' hr hS;cases ho with|cells c c' T f hc=>simp[World.shape?,h1,h2,hc.size]|_=>simp[World.shape?,h1,h2]
theorem Ziz{B:Blk} {l w:World} (h:WR G S B l w) {a a':Addr} (ha:AddrR B a a')(hS:¬S a.block):l.frozen? a=w.frozen? a':=by cases ha with|mk b b' o s hb=>obtain⟨o1,o2,h1,h2,ho⟩:=h.obj b b' hb hS;cases ho with|cells c c' T f hc=>simp[World.frozen?,h1,h2]|_=>simp[World.frozen?,h1,h2]
theorem Zmr{B:Blk} {l w:World} (h:WR G S B l w) {a a':Addr} (ha:AddrR B a a') {v:Value} (hv:l.cell? a=some v)(hf:l.frozen? a=false):¬S a.block:=by intro hS;cases ha with|mk b b' o s hb=>
  obtain⟨c,c',T,f,h1,h2,hc⟩:=h.shr b b' hb hS;simp only[World.cell?,h1]at hv;split at hv;·cases hv
  ·have ho:o<c.size:=(Zuo.1 hv).1;simp[World.frozen?,h1]at hf;omega
theorem WR.put{B:Blk} {l w:World} (h:WR G S B l w) {b b':Nat} (hb:B b b')(hS:¬S b) {o o':Obj} (ho:OR G B o o'):WR G S B {l with heap:=l.heap.setIfInBounds b o} {w with heap:=w.heap.setIfInBounds b' o'}:=by
 obtain⟨d1,d2⟩:=h.dom _ _ hb;refine⟨h.fn,h.inj,fun x x' hx=>by simpa using h.dom x x' hx,fun x x' hx hSx=>?_,fun x x' hx hSx=>?_,h.str,h.glob,h.low,by simpa using h.gsz,fun hs=>⟨(h.sh hs).1,by simpa using (h.sh hs).2.1,(h.sh hs).2.2⟩,fun g hg=>⟨by have hne:b≠g:=fun e=>(h.dark g hg).2 b' (e▸hb);show (l.heap.setIfInBounds b o)[g]?=_;rw[Zuw hne];exact(h.dark g hg).1,(h.dark g hg).2⟩⟩
 ·by_cases e:b=x;·subst e;have e2:=h.fn _ _ _ hb hx;subst e2;exact⟨o,o',by simp[d1],by simp[d2],ho⟩
  ·have e2:b'≠x':=fun e2=>e (h.inj _ _ _ hb (e2▸hx));obtain⟨o1,o2,h1,h2,h3⟩:=h.obj x x' hx hSx;exact⟨o1,o2,by simpa [Zuw e] using h1,by simpa [Zuw e2] using h2,h3⟩
 ·have e:b≠x:=fun e=>hS (e▸hSx);have e2:b'≠x':=fun e2=>e (h.inj _ _ _ hb (e2▸hx));obtain⟨c,c',T,f,h1,h2,h3⟩:=h.shr x x' hx hSx;exact⟨c,c',T,f,by simpa [Zuw e] using h1,by simpa [Zuw e2] using h2,h3⟩
theorem Ran.put{B:Blk} {l w:World} (h:WR G S B l w) {b b':Nat} (hb:B b b')(hS:¬S b) {o o':Obj} (ho:OR G B o o') {e:Event} (he:Zbu S B e):Ran G S B l w B {l with heap:=l.heap.setIfInBounds b o} {w with heap:=w.heap.setIfInBounds b' o'} #[e]:=by
 refine⟨Blk.le_refl _,h.put hb hS ho,fun _ _ x=>.inl x,fun x hx hSx=>?_,by simp[ZwH],⟨rfl,rfl,rfl,ZwO _⟩,⟨rfl,rfl,rfl,ZwO _⟩,ZwH _ _,fun x hx hSx=>?_,fun x h1 h2=>absurd h2 (by simpa using h1),fun e' h'=>by simp at h';rw[h'];exact he⟩
 ·have e2:b'≠x:=fun e2=>hS (hSx b (e2▸hb));simp[Zuw e2]
 ·have e2:b≠x:=fun e2=>hS (e2▸hSx b' (e2▸hb));simp[Zuw e2]
def Blk.with(B:Blk)(r r':Nat):Blk:=fun b b'=>B b b'∨(b=r/\b'=r')
theorem Ran.push{B:Blk} {l w:World} (h:WR G S B l w)(hSl:∀b,S b->b<l.heap.size) {o o':Obj} (ho:OR G B o o'):Ran G S B l w (B.with l.heap.size w.heap.size) {l with heap:=l.heap.push o} {w with heap:=w.heap.push o'} #[]:=by
 have hle:B.le (B.with l.heap.size w.heap.size):=fun _ _ x=>.inl x;refine⟨hle,⟨?_,?_,?_,?_,?_,h.str,fun g hg=>hle _ _ (h.glob g hg),fun b b' x=>x.elim (h.low b b') fun y=>by obtain⟨rfl,rfl⟩:=y;have:=h.gsz;omega,by have:=h.gsz;simp;omega,fun hs=>⟨(h.sh hs).1,by simpa using (h.sh hs).2.1,fun b b' x=>x.elim ((h.sh hs).2.2 b b') fun y=>by rw[y.1,y.2];exact(h.sh hs).2.1⟩,fun g hg=>⟨by have hlt:=(Zuo.1 (h.dark g hg).1).1;show (l.heap.push o)[g]?=_;rw[Zut hlt,<-Zum hlt];exact(h.dark g hg).1,fun b' x=>x.elim ((h.dark g hg).2 b') fun y=>by have hlt:=(Zuo.1 (h.dark g hg).1).1;have:=y.1;omega⟩⟩,?_,?_,⟨by simp,by simp,by simp;omega⟩,⟨rfl,rfl,rfl,ZwO _⟩,⟨rfl,rfl,rfl,ZwO _⟩,ZwH _ _,?_,?_,fun e h=>by simp at h⟩
 ·rintro b b' c' (x|⟨rfl,rfl⟩)(y|⟨y1,rfl⟩);·exact h.fn _ _ _ x y
  ·have:=(h.dom _ _ x).1;omega
  ·have:=(h.dom _ _ y).1;omega
  ·rfl
 ·rintro b c b' (x|⟨rfl,rfl⟩)(y|⟨rfl,y1⟩);·exact h.inj _ _ _ x y
  ·have:=(h.dom _ _ x).2;omega
  ·have:=(h.dom _ _ y).2;omega
  ·rfl
 ·rintro b b' (x|⟨rfl,rfl⟩);·have:=h.dom _ _ x;simp;omega
  ·simp
 ·rintro b b' (x|⟨rfl,rfl⟩) hS;·obtain⟨o1,o2,h1,h2,h3⟩:=h.obj _ _ x hS;have:=h.dom _ _ x;exact⟨o1,o2,by simp[Zut this.1,<-h1],by simp[Zut this.2,<-h2],h3.mono hle⟩
  ·exact⟨o,o',by simp,by simp,ho.mono hle⟩
 ·rintro b b' (x|⟨rfl,rfl⟩) hS;·obtain⟨c,c',T,f,h1,h2,h3⟩:=h.shr _ _ x hS;have:=h.dom _ _ x;exact⟨c,c',T,f,by simp[Zut this.1,<-h1],by simp[Zut this.2,<-h2],h3.mono hle⟩
  ·exact absurd (hSl _ hS) (ZwR _)
 ·rintro b b' (x|⟨rfl,rfl⟩);·exact .inl x
  ·exact .inr ⟨ZwO _,ZwO _,ZwH _ _⟩
 ·intro b' hb _;simp[Zut hb]
 ·intro b hb _;simp[Zut hb]
 ·intro b hb hb';simp at hb';exact⟨_,.inr ⟨by omega,rfl⟩⟩
theorem Zr{B:Blk} {l w:World} (h:WR G S B l w):Ran G S B l w B {l with drawn:=l.drawn+1} {w with drawn:=w.drawn+1} #[]:=by
 refine⟨Blk.le_refl _,⟨h.fn,h.inj,h.dom,h.obj,h.shr,fun i q hi=>?_,h.glob,h.low,h.gsz,h.sh,h.dark⟩,fun _ _ x=>.inl x,fun _ _ _=>rfl,⟨ZwO _,ZwO _,ZwH _ _⟩,⟨rfl,rfl,rfl,by simp⟩,⟨rfl,rfl,rfl,by simp⟩,by simp;omega,fun _ _ _=>rfl,fun b h1 h2=>absurd h2 (Zw2.2 h1),fun e h=>by simp at h⟩;have e1:l.drawn+(1+i)=l.drawn+1+i:=by omega
 have:=h.str (1+i) q (e1▸hi);simp only[<-Nat.add_assoc]at this;exact this
theorem Zo{B:Blk} {l w:World} (h:WR G S B l w) {e:Event} (he:Zbu S B e):Ran G S B l w B l w #[e]:=⟨Blk.le_refl _,h,fun _ _ x=>.inl x,fun _ _ _=>rfl,⟨ZwO _,ZwO _,ZwH _ _⟩,⟨rfl,rfl,rfl,ZwO _⟩,⟨rfl,rfl,rfl,ZwO _⟩,ZwH _ _,fun _ _ _=>rfl,fun b h1 h2=>absurd h2 (Zw2.2 h1),fun e' h'=>by simp at h';rw[h'];exact he⟩
end
variable {o:Obj}
def Z3(G:Env)(S:Side) {α β:Type} (Q:Blk->α->β->Prop)(B:Blk)(s:Sem α)(s':Sem β)(l w:World)(es:Array Event):Prop:=match s.run G.P l with|.ok a l'=>ZbX S l.drawn l'.drawn->∃B' b w' new,s'.runT G.P w es=(.ok b w',es++new)/\Ran G S B l w B' l' w' new/\Q B' a b|.halt h l'=>ZbX S l.drawn l'.drawn->Halt.quiet h/\∃B₁ l₁ w₁ new,Ran G S B l w B₁ l₁ w₁ new/\∀b,b<l₁.heap.size->l'.heap[b]?=l₁.heap[b]?
theorem Zdk{a:Array Obj} {i:Nat} (h:a[i]?=some o)(f:Obj->Obj):a.modify i f=a.setIfInBounds i (f o):=by
 have hi:=(Zuo.1 h).1;apply Zug;intro j;rw[Zur,Zuv];by_cases hj:i=j;·subst hj;rw[if_pos rfl,if_pos rfl,if_pos hi,h];rfl
 ·rw[if_neg hj,if_neg hj]
theorem OR.same{G:Env} {B:Blk} {o':Obj} (h:OR G B o o'):(∃c c' T f,o=.cells c T f/\o'=.cells c' T f/\AR G B c c')∨((∀c T f,o≠.cells c T f)/\∀c T f,o'≠.cells c T f):=by cases h with|cells c c' T f h=>exact .inl ⟨_,_,_,_,rfl,rfl,h⟩|_=>exact .inr ⟨by simp,by simp⟩
section
variable {G:Env} {S:Side} {α β:Type} {Q:Blk->α->β->Prop}
theorem Z3.next{B B₁:Blk} {s s₁:Sem α} {s' s₁':Sem β} {l w l₁ w₁:World} {es n:Array Event} (hl:s.run G.P l=s₁.run G.P l₁)(hw:s'.runT G.P w es=s₁'.runT G.P w₁ (es++n))(hr:Ran G S B l w B₁ l₁ w₁ n)(h:Z3 G S Q B₁ s₁ s₁' l₁ w₁ (es++n)):Z3 G S Q B s s' l w es:=by unfold Z3 at*;rw[hl,hw];cases hs:s₁.run G.P l₁ with|ok a l'=>rw[hs]at h;intro hle;obtain⟨B',b,w',new,h1,h2,h3⟩:=h (hle.sub hr.lone.2.2.2 (ZwO _));exact⟨B',b,w',n++new,by rw[h1,Array.append_assoc],hr.trans h2,h3⟩|halt x l'=>rw[hs]at h;intro hle;obtain⟨hq,B₂,l₂,w₂,new,h1,h2⟩:=h (hle.sub hr.lone.2.2.2 (ZwO _));exact⟨hq,B₂,l₂,w₂,n++new,hr.trans h1,h2⟩
theorem Z3.quiet{B:Blk} {s:Sem α} {s':Sem β} {l w:World} {es:Array Event} {h:Halt} {l':World} (hw:WR G S B l w)(hl:s.run G.P l=.halt h l')(hq:Halt.quiet h)(hk:∀b,b<l.heap.size->l'.heap[b]?=l.heap[b]?):Z3 G S Q B s s' l w es:=by unfold Z3;rw[hl];exact fun _=>⟨hq,B,l,w,#[],.refl hw,hk⟩
theorem ZgA{α:Type}:∀(a:Ask α)(w:World),w.drawn<=(w.ask a).2.drawn
 |.done a,w=>ZwO _|.ask what range k,w=>by
  unfold World.ask;dsimp only;split;·exact ZgA (k 0) w
  ·have:=ZgA (k ((Question.extern what range).cut (w.tape w.drawn (.extern what range)))) {w with drawn:=w.drawn+1};simp only at this;omega
theorem Zms(w:World)(c:Sys):w.drawn<=(w.sys c).2.drawn:=by
 have:=ZgA (Kernel.perform c w.os) w;unfold World.sys;split;·exact ZwO _
 ·rename_i h;rw[h]at this;exact this
def left{α:Type}:Result α->World|.ok _ w=>w|.halt _ w=>w
theorem Zmt{P:Program} {w:World} {x:Addr} {u:TypeId} {a:Addr} {v:Value} {at_:Bool} {r:World×List Addr} (h:w.viewStore P x u a v at_=.ok r):r.1.drawn=w.drawn:=by
 unfold World.viewStore at h;simp only[bind,Except.bind,pure,Except.pure,throw,throwThe,MonadExceptOf.throw]at h;repeat' split at h
 all_goals first|(cases h;done)|(cases h;rfl)
theorem ZgB(P:Program) {α:Type} (s:Sem α):∀w:World,w.drawn<=(left (s.run P w)).drawn:=by induction s with
 |pure a=>exact fun w=>ZwO _|load m a k ih=>intro w;unfold Sem.run;cases w.cell? a with|some v=>exact ih _ w|none=>dsimp only;cases w.farLoad P a (m==.atomic)with|ok r=>exact ih _ w|error h=>exact ZwO _
 |store m a v k ih=>
  intro w;have far:∀r,w.farStore P a v (m==.atomic)=.ok r->r.1.drawn=w.drawn:=by
   intro r hr;unfold World.farStore at hr;split at hr
   ·split at hr;·rename_i h;cases hr;exact Zmt h
    ·cases hr
   ·cases hr
  have main:w.drawn<=(left (match w.cell? a with|some _=>if w.frozen? a then .halt (.unsupported (.unsafePointer "a write to bytes that a string shares")) w else k.run P (w.setCell a v)|none=>match w.farStore P a v (m==.atomic)with|.ok (w,_)=>k.run P w|.error h=>.halt h w)).drawn:=by cases w.cell? a with
   |some u=>
    dsimp only;split;·exact ZwO _
    ·exact ih (w.setCell a v)|none=>dsimp only;cases hf:w.farStore P a v (m==.atomic)with
    |ok r=>have:=ih r.1;rw[far r hf]at this;exact this|error h=>exact ZwO _
  cases v<;>first
   |exact main|exact ZwO _
 |new o k ih=>exact fun w=>ih _ {w with heap:=w.heap.push o}|shape r k ih=>exact fun w=>ih _ w|freeze a n k ih=>
  intro w;have:(w.freeze a n).drawn=w.drawn:=by unfold World.freeze;split<;>rfl
  have h:=ih (w.freeze a n);rw[this]at h;exact h|frozen a k ih=>exact fun w=>ih _ w|getObj r k ih=>
  intro w;unfold Sem.run;split;·exact ZwO _
  ·exact ih _ w
  ·exact ZwO _|setObj r o k ih=>
  intro w;unfold Sem.run;split;·exact ZwO _
  ·exact ih {w with heap:=w.heap.setIfInBounds r o}
  ·exact ZwO _|choose q k ih=>
  intro w;unfold Sem.run;split;·exact ih _ w
  ·have:=ih (q.cut (w.tape w.drawn q)) {w with drawn:=w.drawn+1};exact ZwP (Nat.le_succ _) this|sys c k ih=>intro w;exact ZwP (Zms w c) (ih (w.sys c).1 (w.sys c).2)|program k ih=>exact fun w=>ih _ w|mark m k ih=>exact fun w=>ih w|halt h=>exact fun w=>ZwO _
theorem ZiA(l:World)(c:Array Value)(T:TypeId):({l with heap:=l.heap.push (.cells c T)}:World).freeze ⟨l.heap.size,c.size,none⟩ 1={l with heap:=l.heap.push (.cells c T (c.size,c.size+1))}:=by
 unfold World.freeze;rw[if_neg (by decide)];have h:(l.heap.push (.cells c T))[l.heap.size]?=some (.cells c T):=by simp
 dsimp only;rw[Zdk h];congr 1;apply Zug;intro j;rw[Zuv];by_cases hj:l.heap.size=j;·subst hj;simp
 ·rw[if_neg hj,Zus,Zus,if_neg (fun e=>hj e.symm),if_neg (fun e=>hj e.symm)]
theorem SR.run{B:Blk} {s:Sem α} {s':Sem β} (h:SR G Q B s s'):∀(l w:World)(es:Array Event),WR G S B l w->(∀b,S b->b<l.heap.size)->Z3 G S Q B s s' l w es:=by induction h with
 |pure B a b h=>intro l w es hw hS;exact fun _=>⟨B,b,w,#[],by simp[Sem.runT,-Sem.runT_eq],.refl hw,h⟩|load B a a' k k' ha h ih=>intro l w es hw hS;cases hv:l.cell? a with
  |none=>obtain⟨x,hx,hq⟩:=Zmo hw ha (Mode.plain==Mode.atomic);refine Z3.quiet (h:=x) (l':=l) hw ?_ hq (fun _ _=>rfl);simp only[Sem.run,hv,hx]|some v=>
   obtain⟨v',hv',hvr⟩:=Zgz hw ha hv;refine Z3.next (s₁:=k v) (s₁':=k' v') (l₁:=l) (w₁:=w) (n:=#[⟨.cell a',false,false⟩]) (by simp only[Sem.run,hv]) ?_ (Zo hw ?_) (ih v v' hvr l w _ hw hS);·simp only[Sem.runT,hv'];rw[ZuE];rfl
   ·cases ha with|mk b b' o s hb=>exact⟨rfl,b,hb,by simp⟩
 |store B a a' v v' k k' ha hv h ih=>
  intro l w es hw hS;have main:(∀xs,v≠.agg xs)->(∀xs,v≠.tuple xs)->Z3 G S Q B (.store .plain a v k) (.store .plain a' v' k') l w es:=by
   intro n1 n2;have e1:(Sem.store .plain a v k).run G.P l=match l.cell? a with
     |some _=>if l.frozen? a then .halt (.unsupported (.unsafePointer "a write to bytes that a string shares")) l else k.run G.P (l.setCell a v)|none=>match l.farStore G.P a v (Mode.plain==.atomic)with
      |.ok (w,_)=>k.run G.P w|.error h=>.halt h l:=by cases v<;>first|rfl|exact absurd rfl (n1 _)|exact absurd rfl (n2 _)
   have e2:(Sem.store .plain a' v' k').runT G.P w es=match w.cell? a' with
     |some _=>if w.frozen? a' then (.halt (.unsupported (.unsafePointer "a write to bytes that a string shares")) w,es)else k'.runT G.P (w.setCell a' v') (es.push ⟨.cell a',true,Mode.plain==.atomic⟩)|none=>match w.farStore G.P a' v' (Mode.plain==.atomic)with|.ok (w,touched)=>k'.runT G.P w (es++touched.toArray.map (⟨.cell ·,true,Mode.plain==.atomic⟩))|.error h=>(.halt h w,es):=by cases hv<;>first|rfl|exact absurd rfl (n1 _)|exact absurd rfl (n2 _)
   cases hc:l.cell? a with
   |none=>obtain⟨x,hx,hq⟩:=Zmp hw ha v (Mode.plain==Mode.atomic);refine Z3.quiet (h:=x) (l':=l) hw ?_ hq (fun _ _=>rfl);rw[e1,hc];simp only[hx]|some u=>cases hf:l.frozen? a with
    |true=>refine Z3.quiet (h:=.unsupported (.unsafePointer "a write to bytes that a string shares")) (l':=l) hw ?_ trivial (fun _ _=>rfl);rw[e1,hc];simp only[hf,if_true]|false=>
     have hSa:=Zmr hw ha hc hf;have hf':w.frozen? a'=false:=by rw[<-Ziz hw ha hSa];exact hf
     obtain⟨u',hu',_⟩:=Zgz hw ha hc;cases ha with|mk b b' o s hb=>obtain⟨o1,o2,h1,h2,ho⟩:=hw.obj b b' hb hSa;cases ho with
      |cells c c' T f hcc=>
       have hs:s.isSome=false:=by cases hh:s.isSome with
        |false=>rfl|true=>simp[World.cell?,h1,hh]at hc
       have w1:l.setCell ⟨b,o,s⟩ v={l with heap:=l.heap.setIfInBounds b (.cells (c.setIfInBounds o v) T f)}:=by unfold World.setCell;rw[Zdk h1];simp[hs]
       have w2:w.setCell ⟨b',o,s⟩ v'={w with heap:=w.heap.setIfInBounds b' (.cells (c'.setIfInBounds o v') T f)}:=by unfold World.setCell;rw[Zdk h2];simp[hs]
       have hR:=Ran.put hw hb hSa (OR.cells _ _ T f (hcc.set o hv)) (e:=⟨.cell ⟨b',o,s⟩,true,false⟩) ⟨rfl,b,hb,fun _=>hSa⟩;refine Z3.next (s₁:=k) (s₁':=k') (n:=#[⟨.cell ⟨b',o,s⟩,true,false⟩]) ?_ ?_ hR (ih _ _ _ hR.wr (fun x hx=>by simpa using hS x hx));·rw[e1,hc];simp only[hf,if_false,ZuQ,w1]
       ·rw[e2,hu'];simp only[hf',if_false,ZuQ,w2];rw[ZuE];rfl|_=>simp[World.cell?,h1]at hc
  cases hv with
  |agg xs xs' hx hxs=>exact Z3.quiet (h:=.stuck "store: not the value of one cell") (l':=l) hw rfl trivial (fun _ _=>rfl)|tuple xs xs' hx hxs=>exact Z3.quiet (h:=.stuck "store: not the value of one cell") (l':=l) hw rfl trivial (fun _ _=>rfl)|junk v hf hv=>exact Z3.quiet (h:=.stuck "store: not the value of one cell") (l':=l) hw rfl trivial (fun _ _=>rfl)|_=>exact main (by simp) (by simp)
 |new B o o' k k' ho h ih=>intro l w es hw hS;have hR:=Ran.push hw hS ho;exact Z3.next (s₁:=k l.heap.size) (s₁':=k' w.heap.size) (n:=#[]) rfl (by simp only[Sem.runT,Zud]) hR (ih _ _ _ hR.le (.inr ⟨rfl,rfl⟩) _ _ _ hR.wr (fun x hx=>by have:=hS x hx;simp;omega))|shape B r r' k k' hr h ih=>intro l w es hw hS;have e:=Zmq hw hr;exact Z3.next (s₁:=k (l.shape? r)) (s₁':=k' (w.shape? r')) (n:=#[]) rfl (by simp only[Sem.runT,Zud]) (.refl hw) (by rw[<-e];exact ih _ _ _ _ hw hS)|freeze B a a' n k k' hs ha h ih=>intro l w es hw hS;cases ha with|mk b b' o s hb=>
   have hSb:=(hw.sh hs).1 b;obtain⟨o1,o2,h1,h2,ho⟩:=hw.obj b b' hb hSb;by_cases hn:n=0
   ·refine Z3.next (s₁:=k) (s₁':=k') (n:=#[]) (l₁:=l) (w₁:=w) ?_ ?_ (.refl hw) (ih _ _ _ hw hS);·simp[Sem.run,World.freeze,hn]
    ·simp[Sem.runT,World.freeze,hn,-Sem.runT_eq]
   ·have g1:∃x x',OR G B x x'/\l.freeze ⟨b,o,s⟩ n={l with heap:=l.heap.setIfInBounds b x}/\w.freeze ⟨b',o,s⟩ n={w with heap:=w.heap.setIfInBounds b' x'}:=by
     rcases ho.same with⟨c,c',T,⟨lo,hi⟩,rfl,rfl,hcc⟩|⟨n1,n2⟩
     ·refine⟨_,_,OR.cells c c' T (if lo==hi then (o,o+n)else (min lo o,max hi (o+n))) hcc,?_,?_⟩;·unfold World.freeze;rw[if_neg hn,Zdk h1]
      ·unfold World.freeze;rw[if_neg hn,Zdk h2]
     ·refine⟨o1,o2,ho,?_,?_⟩;·unfold World.freeze;rw[if_neg hn,Zdk h1];cases o1<;>first|rfl|exact absurd rfl (n1 _ _ _)
      ·unfold World.freeze;rw[if_neg hn,Zdk h2];cases o2<;>first|rfl|exact absurd rfl (n2 _ _ _)
    obtain⟨x,x',hx,e1,e2⟩:=g1;have hR:=Ran.put hw hb hSb hx (e:=⟨.cell ⟨b',o,s⟩,true,false⟩) ⟨rfl,b,hb,fun _=>hSb⟩;have hR':Ran G S B l w B {l with heap:=l.heap.setIfInBounds b x} {w with heap:=w.heap.setIfInBounds b' x'} #[]:=⟨hR.le,hR.wr,hR.al,hR.keep,hR.size,hR.same,hR.lone,hR.draws,hR.lkeep,hR.cov,fun e h=>by simp at h⟩;exact Z3.next (s₁:=k) (s₁':=k') (n:=#[]) (by simp only[Sem.run,e1]) (by simp only[Sem.runT,e2,Zud]) hR' (ih _ _ _ hR'.wr (fun x hx=>by simpa using hS x hx))|frozen B a a' k k' ha h ih=>intro l w es hw hS;refine Z3.next (s₁:=k (l.frozen? a)) (s₁':=k' (w.frozen? a')) (n:=#[]) rfl (by simp only[Sem.runT,Zud]) (.refl hw) (ih _ _ (fun hs=>?_) _ _ _ hw hS);exact Ziz hw ha ((hw.sh hs).1 _)|getObj B r r' k k' hr h ih=>
  intro l w es hw hS;by_cases hSr:S r;·obtain⟨c,c',T,f,h1,h2,hc⟩:=hw.shr r r' hr hSr;exact Z3.quiet (h:=.stuck "getObj: a row of cells") (l':=l) hw (by simp only[Sem.run,h1]) trivial (fun _ _=>rfl)
  ·obtain⟨o1,o2,h1,h2,ho⟩:=hw.obj r r' hr hSr;by_cases hcell:∃c T f,o1=.cells c T f;·obtain⟨c,T,f,rfl⟩:=hcell;exact Z3.quiet (h:=.stuck "getObj: a row of cells") (l':=l) hw (by simp only[Sem.run,h1]) trivial (fun _ _=>rfl)
   ·refine Z3.next (s₁:=k o1) (s₁':=k' o2) (l₁:=l) (w₁:=w) (n:=#[⟨.obj r',false,false⟩]) ?_ ?_ (Zo hw ⟨rfl,r,hr,hSr⟩) (ih o1 o2 ho l w _ hw hS);·cases ho<;>first|exact absurd ⟨_,_,_,rfl⟩ hcell|simp only[Sem.run,h1]
    ·cases ho<;>first|exact absurd ⟨_,_,_,rfl⟩ hcell|(simp only[Sem.runT,h2,Obj.isChan];rw[ZuE])
 |setObj B r r' o o' k k' hr ho h ih=>
  intro l w es hw hS;by_cases hSr:S r;·obtain⟨c,c',T,f,h1,h2,hc⟩:=hw.shr r r' hr hSr;exact Z3.quiet (h:=.stuck "setObj: a row of cells") (l':=l) hw (by simp only[Sem.run,h1]) trivial (fun _ _=>rfl)
  ·obtain⟨o1,o2,h1,h2,ho2⟩:=hw.obj r r' hr hSr;by_cases hcell:∃c T f,o1=.cells c T f;·obtain⟨c,T,f,rfl⟩:=hcell;exact Z3.quiet (h:=.stuck "setObj: a row of cells") (l':=l) hw (by simp only[Sem.run,h1]) trivial (fun _ _=>rfl)
   ·have hR:=Ran.put hw hr hSr ho (e:=⟨.obj r',true,false⟩) ⟨rfl,r,hr,hSr⟩;refine Z3.next (s₁:=k) (s₁':=k') (n:=#[⟨.obj r',true,false⟩]) ?_ ?_ hR (ih _ _ _ hR.wr (fun x hx=>by simpa using hS x hx));·cases ho2<;>first|exact absurd ⟨_,_,_,rfl⟩ hcell|simp only[Sem.run,h1]
    ·have e3:o'.isChan=false:=by cases ho<;>rfl
     cases ho2<;>first|exact absurd ⟨_,_,_,rfl⟩ hcell|(simp only[Sem.runT,h2,e3];rw[ZuE])
 |choose B q k k' h ih=>
  intro l w es hw hS;by_cases hq:q.forced=true;·exact Z3.next (s₁:=k 0) (s₁':=k' 0) (l₁:=l) (w₁:=w) (n:=#[]) (by simp only[Sem.run,hq,if_true]) (by simp only[Sem.runT,hq,if_true,Zud]) (.refl hw) (ih 0 l w _ hw hS)
  ·have hR:=Zr hw;by_cases hlt:S.till l.drawn;case neg=>
    have hm:=ZgB G.P (k (q.cut (l.tape l.drawn q))) {l with drawn:=l.drawn+1};have e0:(Sem.choose q k).run G.P l=(k (q.cut (l.tape l.drawn q))).run G.P {l with drawn:=l.drawn+1}:=by simp only[Sem.run,hq,if_false,ZuQ]
    unfold Z3;rw[e0];cases hr:(k (q.cut (l.tape l.drawn q))).run G.P {l with drawn:=l.drawn+1} with
    |ok a l'=>rw[hr]at hm;intro hle;exact absurd (hle l.drawn (ZwO _) hm) hlt|halt x l'=>rw[hr]at hm;intro hle;exact absurd (hle l.drawn (ZwO _) hm) hlt
   have e:=hw.str 0 q hlt;simp only[ZwK]at e;refine Z3.next (s₁:=k (q.cut (l.tape l.drawn q))) (s₁':=k' (q.cut (w.tape w.drawn q))) (n:=#[]) (by simp only[Sem.run,hq,if_false,ZuQ]) (by simp only[Sem.runT,hq,if_false,ZuQ,Zud]) hR ?_;rw[e];exact ih _ _ _ _ hR.wr hS|program B k k' h ih=>intro l w es hw hS;exact Z3.next (s₁:=k G.P) (s₁':=k' G.P) (n:=#[]) rfl (by simp only[Sem.runT,Zud]) (.refl hw) (ih _ _ _ hw hS)|mark B m k k' hm h ih=>intro l w es hw hS;refine Z3.next (s₁:=k) (s₁':=k') (l₁:=l) (w₁:=w) (n:=#[⟨.mark m,false,true⟩]) rfl ?_ (Zo hw hm) (ih _ _ _ hw hS);simp only[Sem.runT];rw[ZuE]|halt B x s' hq=>intro l w es hw hS;exact Z3.quiet (h:=x) (l':=l) hw rfl hq (fun _ _=>rfl)|bij B s s' h ih=>exact fun l w es hw hS=>ih ⟨hw.fn,hw.inj,fun h=>(hw.sh h).2.2,hw.low,hw.glob⟩ l w es hw hS|newF B c c' T k k' k1 k1' hc h1 h1' h ih=>
  intro l w es hw hS;have hR:=Ran.push hw hS (o:=.cells c T (c.size,c.size+1)) (o':=.cells c' T (c.size,c.size+1)) (.cells c c' T _ hc);have e1:(Sem.new (.cells c T) fun r=>.shape r (k1 r)).run G.P l=(k l.heap.size).run G.P {l with heap:=l.heap.push (.cells c T (c.size,c.size+1))}:=by
   have hs:({l with heap:=l.heap.push (.cells c T)}:World).shape? l.heap.size=some (T,c.size):=by simp[World.shape?]
   have hf:({l with heap:=l.heap.push (.cells c T)}:World).freeze ⟨l.heap.size,c.size,none⟩ 1={l with heap:=l.heap.push (.cells c T (c.size,c.size+1))}:=ZiA l c T;simp only[Sem.run,hs,h1,hf]
  have e2:(Sem.new (.cells c' T) fun r=>.shape r (k1' r)).runT G.P w es=(k' w.heap.size).runT G.P {w with heap:=w.heap.push (.cells c' T (c.size,c.size+1))} es:=by
   have hs:({w with heap:=w.heap.push (.cells c' T)}:World).shape? w.heap.size=some (T,c'.size):=by simp[World.shape?]
   have hf:({w with heap:=w.heap.push (.cells c' T)}:World).freeze ⟨w.heap.size,c'.size,none⟩ 1={w with heap:=w.heap.push (.cells c' T (c.size,c.size+1))}:=by rw[hc.size];exact ZiA w c' T
   simp only[Sem.runT,hs,h1',hf]
  exact Z3.next (s₁:=k l.heap.size) (s₁':=k' w.heap.size) (n:=#[]) e1 (by rw[e2,Zud]) hR (ih _ _ _ hR.le (.inr ⟨rfl,rfl⟩) _ _ _ hR.wr (fun x hx=>by have:=hS x hx;simp;omega))|dead B s s' h=>intro l w es hw hS;obtain⟨x,l',h1,h2,h3⟩:=h l fun g hg=>(hw.dark g hg).1;exact Z3.quiet hw h1 h2 h3
end
section
variable {G:Env} {α β:Type} {Q:Blk->α->β->Prop} {B:Blk}
def QE{α:Type}:Blk->α->α->Prop:=fun _ a b=>a=b
def QV(G:Env):Blk->Value->Value->Prop:=fun B a b=>VR G B a b
def QA(G:Env):Blk->Array Value->Array Value->Prop:=fun B a b=>AR G B a b
def QU:Blk->Unit->Unit->Prop:=fun _ _ _=>True
theorem Zx{a:α} {b:β} (h:Q B a b):SR G Q B (Pure.pure a:Sem α) (Pure.pure b:Sem β):=.pure B a b h
theorem ZaM(why:String)(s':Sem β):SR G Q B (stuck why:Sem α) s':=.halt B _ s' trivial
theorem Zfr{u:Unsupported} (hu:∀g,u≠.initOrder g)(s':Sem β):SR G Q B (unsupported u:Sem α) s':=.halt B _ s' (by cases u<;>first|exact absurd rfl (hu _)|trivial)
theorem Zfs{v v':Value} (h:VR G B v v'):SR G Q B (goPanic v:Sem α) (goPanic v':Sem β):=.halt B _ _ trivial
theorem Zez{a a':Addr} (h:AddrR B a a'):SR G (QV G) B (load a) (load a'):=.load B a a' _ _ h fun v v' hv=>.pure B v v' hv
theorem Zmu{a a':Addr} {v v':Value} (h:AddrR B a a') (hv:VR G B v v'):SR G QU B (store a v) (store a' v'):=.store B a a' v v' _ _ h hv (.pure B _ _ trivial)
theorem ZdS{o o':Obj} (h:OR G B o o'):SR G (fun B r r'=>B r r') B (newObj o) (newObj o'):=.new B o o' _ _ h fun B' r r' _ hr=>.pure B' r r' hr
theorem ZcN{r r':Nat} (h:B r r'):SR G QE B (shape r) (shape r'):=.shape B r r' _ _ h fun s=>.pure B s s rfl
theorem Zmv{a a':Addr} {n:Nat} (hs:G.sh=false) (h:AddrR B a a'):SR G QU B (freeze a n) (freeze a' n):=.freeze B a a' n _ _ hs h (.pure B _ _ trivial)
theorem Zmw{a a':Addr} (h:AddrR B a a'):SR G (fun _ n n'=>G.sh=false->n=n') B (frozen a) (frozen a'):=.frozen B a a' _ _ h fun n n' hn=>.pure B n n' hn
theorem ZdT{r r':Nat} (h:B r r'):SR G (fun B o o'=>OR G B o o') B (getObj r) (getObj r'):=.getObj B r r' _ _ h fun o o' ho=>.pure B o o' ho
theorem ZeA{r r':Nat} {o o':Obj} (h:B r r') (ho:OR G B o o'):SR G QU B (setObj r o) (setObj r' o'):=.setObj B r r' o o' _ _ h ho (.pure B _ _ trivial)
theorem Zdl(q:Question):SR G QE B (choose q) (choose q):=.choose B q _ _ fun n=>.pure B n n rfl
theorem Zbv:SR G (fun _ a b=>a=G.P/\b=G.P) B program program:=.program B _ _ (.pure B _ _ ⟨rfl,rfl⟩)
theorem ZiB{m:Mark} (h:Mark.quiet m):SR G QU B (mark m) (mark m):=.mark B m _ _ h (.pure B _ _ trivial)
theorem ZgC(n:Nat):SR G QU B (askRoom n) (askRoom n):=by
 unfold askRoom;split;·exact ZiB trivial
 ·exact Zx trivial
theorem Zbw(t:TypeId):SR G (fun _ a b=>a=b/\G.P.info? t=some a) B (typeInfo t) (typeInfo t):=by unfold typeInfo;refine Za Zbv fun B' a b hB hab=>?_;obtain⟨rfl,rfl⟩:=hab;cases h:G.P.info? t with|some i=>exact Zx ⟨rfl,rfl⟩|none=>exact ZaM _ _
theorem Z4(t:TypeId):SR G (fun _ a b=>a=b/\G.P.underlying t=some a) B (underlying t) (underlying t):=by unfold underlying;refine Za Zbv fun B' a b hB hab=>?_;obtain⟨rfl,rfl⟩:=hab;cases h:G.P.underlying t with|some i=>exact Zx ⟨rfl,rfl⟩|none=>exact ZaM _ _
theorem Zdm{t:TypeId} (h:G.zero t=true):SR G (fun B a b=>VR G B a b/\a=b/\Zbh 8 a=true) B (zeroValue t) (zeroValue t):=by unfold zeroValue;refine Za (Zbw t) fun B' a b hB hab=>?_;obtain⟨rfl,hi⟩:=hab;unfold Env.zero at h;rw[hi]at h;simp only[Zxc]at h;cases hz:a.zero with|none=>exact Zfr (by simp) _|some v=>rw[hz]at h;exact Zx ⟨VR.closed 8 v h,rfl,h⟩
theorem ZaN(t:TypeId):SR G QE B (sizeOf t) (sizeOf t):=by unfold sizeOf;refine Za (Zbw t) fun B' a b hB hab=>?_;obtain⟨rfl,hi⟩:=hab;exact Zx rfl
theorem ZiC(t:TypeId):SR G QE B (isAgg t) (isAgg t):=by unfold isAgg;refine Za (Z4 t) fun B' a b hB hab=>?_;obtain⟨rfl,hi⟩:=hab;split<;>exact Zx rfl
theorem Zmx(t:TypeId):SR G QE B (elemOf t) (elemOf t):=by
 unfold elemOf;refine Za (Z4 t) fun B' a b hB hab=>?_;obtain⟨rfl,hi⟩:=hab;split;·exact Zx rfl
 ·exact ZaM _ _
theorem AddrR.add{a a':Addr} (h:AddrR B a a') (n:Nat):AddrR B (a.add n) (a'.add n):=by cases h with|mk b b' o s hb=>
  unfold Addr.add;split;·exact .mk _ _ _ _ hb
  ·exact .mk _ _ _ _ hb
theorem ZiD{a a':Addr}:∀(n i:Nat) {B:Blk} {acc acc':Array Value},AddrR B a a'->AR G B acc acc'->SR G (QA G) B (loadCellsFrom a i n acc) (loadCellsFrom a' i n acc')|0,i,B,acc,acc',h,ha=>Zx ha|n+1,i,B,acc,acc',h,ha=>by unfold loadCellsFrom;refine Za (Zez (h.add i)) fun B' v v' hB hv=>?_;have h':=h.mono hB;exact ZiD n (i+1) h' ((ha.mono hB).push hv)
theorem ZgD{a a':Addr} (h:AddrR B a a') (n:Nat):SR G (QA G) B (loadCells a n) (loadCells a' n):=ZiD n 0 h AR.empty
inductive LR (G:Env)(B:Blk):List Value->List Value->Prop|nil:LR G B [] []|cons (v v':Value) (vs vs':List Value) (h:VR G B v v') (hs:LR G B vs vs'):LR G B (v::vs) (v'::vs')
theorem LR.mono{B':Blk} (hB:B.le B') {vs vs':List Value} (h:LR G B vs vs'):LR G B' vs vs':=by induction h with|nil=>exact .nil|cons v v' vs vs' h hs ih=>exact .cons v v' vs vs' (h.mono hB) ih
theorem ZiE:∀{vs vs':List Value},vs.length=vs'.length->(∀(i:Nat)(v v':Value),vs[i]?=some v->vs'[i]?=some v'->VR G B v v')->LR G B vs vs'|[],[],_,_=>.nil|v::vs,v'::vs',h,hv=>.cons _ _ _ _ (hv 0 v v' rfl rfl) (ZiE (by simpa using h) fun i u u' hu hu'=>hv (i+1) u u' (by simpa using hu) (by simpa using hu'))
theorem AR.list{xs xs':Array Value} (h:AR G B xs xs'):LR G B xs.toList xs'.toList:=ZiE (by simpa using h.size) fun i u u' hu hu'=>h.at_ i u u' (by simpa using hu) (by simpa using hu')
theorem LR.get{vs vs':List Value} (h:LR G B vs vs'):vs.length=vs'.length/\∀(i:Nat)(v v':Value),vs[i]?=some v->vs'[i]?=some v'->VR G B v v':=by induction h with|nil=>exact⟨rfl,fun i v v' h=>by simp at h⟩|cons v v' vs vs' h hs ih=>refine⟨by simp[ih.1],fun i u u' hu hu'=>?_⟩;cases i with|zero=>simp at hu hu';rw[<-hu,<-hu'];exact h|succ i=>exact ih.2 i u u' (by simpa using hu) (by simpa using hu')
theorem LR.array{vs vs':List Value} (h:LR G B vs vs'):AR G B vs.toArray vs'.toArray:=⟨by simpa using h.get.1,fun i u u' hu hu'=>h.get.2 i u u' (by simpa using hu) (by simpa using hu')⟩
theorem ZeB:∀{vs vs':List Value} {B:Blk} {a a':Addr} (i:Nat),AddrR B a a'->LR G B vs vs'->SR G QU B (storeCells a vs i) (storeCells a' vs' i)|_,_,B,a,a',i,h,.nil=>by unfold storeCells;exact Zx trivial|_,_,B,a,a',i,h,.cons v v' vs vs' hv hs=>by unfold storeCells;refine Za (Zmu (h.add i) hv) fun B' _ _ hB _=>?_;exact ZeB (i+1) (h.mono hB) (hs.mono hB)
theorem ZiF{a a':Addr} (t:TypeId) (h:AddrR B a a'):SR G (QV G) B (loadVar t a) (loadVar t a'):=by
 unfold loadVar;refine Za (ZiC t) fun B' x y hB hxy=>?_;obtain rfl:=hxy;split
 ·refine Za (ZaN t) fun B'' n m hB' hnm=>?_;obtain rfl:=hnm;refine Za (ZgD ((h.mono hB).mono hB') n) fun B3 xs xs' hB3 hx=>?_;exact Zx (Zf hx)
 ·exact Zez (h.mono hB)
theorem Zmy{a a':Addr} {v v':Value} (t:TypeId) (h:AddrR B a a') (hv:VR G B v v'):SR G QU B (storeVar t a v) (storeVar t a' v'):=by
 unfold storeVar;refine Za (ZaN t) fun B' n m hB hnm=>?_;obtain rfl:=hnm;have hc:=hv.cells;dsimp only;by_cases hn:v.cells.size≠n;·rw[if_pos hn];exact SR.halt _ (.stuck _) _ trivial
 ·rw[if_neg hn,if_neg (by rw[<-hc.size];exact hn)];exact ZeB 0 (h.mono hB) (hc.mono hB).list
theorem ZdU{xs xs':Array Value} (t:TypeId) (h:AR G B xs xs'):SR G (fun B a a'=>AddrR B a a') B (newRow t xs) (newRow t xs'):=by unfold newRow;refine Za (ZdS (OR.cells _ _ t (0,0) h)) fun B' r r' hB hr=>?_;exact Zx (.mk _ _ _ _ hr)
theorem ZiG{v v':Value} (t:TypeId) (h:VR G B v v'):SR G (fun B a a'=>AddrR B a a') B (newVar t v) (newVar t v'):=ZdU t h.cells
theorem Zcg{xs xs':Array Value} (t:TypeId) (off:Nat) (h:AR G B xs xs'):SR G (QV G) B (part t xs off) (part t xs' off):=by
 unfold part;refine Za (ZiC t) fun B' x y hB hxy=>?_;obtain rfl:=hxy;have h':=h.mono hB;split;·refine Za (ZaN t) fun B'' n m hB' hnm=>?_;obtain rfl:=hnm;exact Zx (Zf ((h'.mono hB').extract _ _))
 ·cases hv:xs[off]? with|none=>exact ZaM _ _|some v=>obtain⟨v',hv',hr⟩:=h'.get hv;rw[hv'];exact Zx hr
theorem ZgE(s:String):VR G B (strVal s) (strVal s):=.string _
theorem ZbY{e:RuntimeError} (h:match e with|.bounds ..|.error _|.plain _|.nilDeref=>True|_=>False):SR G Q B (runtimePanic e:Sem α) (runtimePanic e:Sem β):=by unfold runtimePanic;refine Za Zbv fun B' a b hB hab=>?_;obtain⟨rfl,rfl⟩:=hab;cases e with|bounds x y s c=>exact Zfs (.iface _ _ _ (Zf (((AR.one (.int _ _)).push (.int _ _)).push (.bool _)|>.push (.int _ _))))|error m=>exact Zfs (.iface _ _ _ (ZgE _))|plain m=>exact Zfs (.iface _ _ _ (ZgE _))|nilDeref=>exact Zfs (.iface _ _ _ (ZgE _))|_=>exact h.elim
theorem Zdn(k:IntKind) (x y:Int) (c:BoundsCode):SR G Q B (boundsPanic k x y c:Sem α) (boundsPanic k x y c:Sem β):=by
 unfold boundsPanic;dsimp only;split
 ·refine Za (Q:=QE) (Za (Zdl _) fun B' a b hB hab=>?_) fun B' a b hB hab=>?_;·obtain rfl:=hab;exact Zx rfl
  ·obtain rfl:=hab;exact ZbY trivial
 ·exact Za (Q:=QE) (Zx rfl) fun B' a b hB hab=>by obtain rfl:=hab;exact ZbY trivial
theorem ZeC{v v':Value} (h:VR G B v v'):SR G QE B (asIntOf v) (asIntOf v'):=by cases h with|int k n=>exact Zx rfl|ptr a a' h=>exact Zfr (by simp) _|_=>exact ZaM _ _
theorem ZdV{v v':Value} (h:VR G B v v'):SR G QE B (asInt v) (asInt v'):=by unfold asInt;refine Za (ZeC h) fun B' a b hB hab=>?_;obtain rfl:=hab;exact Zx rfl
theorem ZgF{v v':Value} (h:VR G B v v'):SR G QE B (asBool v) (asBool v'):=by cases h with|bool b=>exact Zx rfl|_=>exact ZaM _ _
theorem Zmz{v v':Value} (h:VR G B v v'):SR G (QA G) B (asAgg v) (asAgg v'):=by cases h with|agg xs xs' hx hxs=>exact Zx ⟨hx,hxs⟩|_=>exact ZaM _ _
theorem ZgG{v v':Value} (h:VR G B v v'):SR G (fun B a a'=>AddrR B a a') B (asAddr v) (asAddr v'):=by cases h with|ptr a a' h=>exact Zx h|nilPtr=>exact ZbY (e:=.nilDeref) trivial|_=>exact ZaM _ _
theorem ZeD{v v':Value} (h:VR G B v v'):SR G (fun B a a'=>AddrR B a a') B (Instr.sureAddr v) (Instr.sureAddr v'):=by cases h with|ptr a a' h=>exact Zx h|_=>exact ZaM _ _
end
section
variable {G:Env} {α β:Type} {Q:Blk->α->β->Prop} {B:Blk}
theorem VR.ofAddr{a a':Addr} (h:AddrR B a a'):VR G B (.pointer (some a)) (.pointer (some a')):=.ptr a a' h
theorem ZmA{t:TypeId} (h:G.zero t=true):SR G (QV G) B (Instr.alloc t true (.tuple #[])) (Instr.alloc t true (.tuple #[])):=by unfold Instr.alloc;refine Za (Zdm h) fun B' z z' hB hz=>?_;obtain⟨h1,rfl,_⟩:=hz;refine Za (ZiG t h1) fun B'' a a' hB' ha=>?_;exact Zx (.ofAddr ha)
theorem ZmB{t:TypeId} {v v':Value} (h:VR G B v v'):SR G (QV G) B (Instr.box t v) (Instr.box t v'):=by unfold Instr.box;refine Za (ZiG t h) fun B'' a a' hB' ha=>?_;exact Zx (.ofAddr ha)
theorem ZmC{t:TypeId} {v v':Value} (h:VR G B v v'):SR G (QV G) B (Instr.loadAt t v) (Instr.loadAt t v'):=by unfold Instr.loadAt;exact Za (ZeD h) fun B' a a' hB ha=>ZiF t ha
theorem ZmD{t:TypeId} {v v' u u':Value} (h:VR G B v v') (hu:VR G B u u'):SR G QU B (Instr.storeAt t v u) (Instr.storeAt t v' u'):=by unfold Instr.storeAt;exact Za (ZeD h) fun B' a a' hB ha=>Zmy t ha (hu.mono hB)
theorem ZmE{v v':Value} (h:VR G B v v') (i:Nat):SR G (QV G) B (Instr.extract v i) (Instr.extract v' i):=by unfold Instr.extract;cases h with
 |tuple xs xs' hx hxs=>have hA:AR G B xs xs':=⟨hx,hxs⟩;dsimp only;cases hv:xs[i]? with|none=>exact ZaM _ _|some v=>obtain⟨v',hv',hr⟩:=hA.get hv;rw[hv'];exact Zx hr
 |_=>exact ZaM _ _
theorem ZmF{v v':Value} (h:VR G B v v') (t:TypeId) (i:Nat):SR G (QV G) B (Instr.field t v i) (Instr.field t v' i):=by
 unfold Instr.field;refine Za (Z4 t) fun B' d d' hB hd=>?_;obtain⟨rfl,_⟩:=hd;split
 ·split;·exact Za (Zmz (h.mono hB)) fun B'' xs xs' hB' hx=>Zcg _ _ hx
  ·exact ZaM _ _
 ·exact ZaM _ _
theorem ZmG{v v' u u':Value} (h:VR G B v v') (hu:VR G B u u') (t:TypeId):SR G (QV G) B (Instr.index t v u) (Instr.index t v' u'):=by unfold Instr.index;refine Za (ZeC hu) fun B' k k' hB hk=>?_;obtain rfl:=hk;obtain⟨k,i⟩:=k;dsimp only;refine Za (Z4 t) fun B'' d d' hB' hd=>?_;obtain⟨rfl,_⟩:=hd;have h':=(h.mono hB).mono hB';cases h' with
 |agg xs xs' hx hxs=>
  cases d<;>try exact ZaM _ _
  dsimp only;split
  ·refine Za (ZaN _) fun B3 n m hB3 hn=>?_;obtain rfl:=hn;exact Zcg _ _ (AR.mono hB3 ⟨hx,hxs⟩)
  ·exact Zdn _ _ _ _|string s=>
  cases d<;>try exact ZaM _ _
  dsimp only;split;·exact Zx (.int _ _)
  ·exact Zdn _ _ _ _|_=>cases d<;>exact ZaM _ _
theorem ZmH{v v':Value} (h:VR G B v v') (t:TypeId) (i:Nat) (hs:G.sized t i=true):SR G (QV G) B (Instr.fieldAt t v i) (Instr.fieldAt t v' i):=by
 unfold Instr.fieldAt;refine Za (Z4 t) fun B' d d' hB hd=>?_;obtain⟨rfl,hd⟩:=hd;cases d<;>try exact ZaM _ _
 rename_i fs;dsimp only;cases hf:fs[i]? with
 |none=>exact ZaM _ _|some f=>
  dsimp only;unfold Env.sized at hs;rw[hd]at hs;simp only[hf]at hs;refine Za (ZeD (h.mono hB)) fun B'' a a' hB' ha=>?_;unfold fieldPlace sizeOf;refine Za (Q:=fun B a a'=>AddrR B a a') ?_ fun B3 a a' hB3 ha=>Zx (.ofAddr ha);refine Za (Q:=fun _ x y=>x=y/\x≠0) (Za (Zbw f.type) fun B3 x y hB3 hx=>?_) fun B3 x y hB3 hx=>?_;·obtain⟨rfl,hx⟩:=hx;rw[hx]at hs;exact Zx ⟨rfl,by simpa using hs⟩
  ·obtain⟨rfl,hx⟩:=hx;rw[if_neg hx,if_neg hx];exact Zx ((ha.mono hB3).add _)
theorem ZmI{v v' u u':Value} (h:VR G B v v') (hu:VR G B u u') (t:TypeId):SR G (QV G) B (Instr.indexAt t v u) (Instr.indexAt t v' u'):=by
 unfold Instr.indexAt;refine Za (ZeC hu) fun B' k k' hB hk=>?_;obtain rfl:=hk;obtain⟨k,i⟩:=k;dsimp only;refine Za (Z4 t) fun B'' d d' hB' hd=>?_;obtain⟨rfl,hd⟩:=hd;have h':=(h.mono hB).mono hB';have tail:∀(a a':Addr)(len:Nat)(elem:TypeId)(B3:Blk)(tiny:Bool),AddrR B3 a a'->SR G (QV G) B3 (if 0<=i/\i<len then (do Pure.pure (.pointer (some (a.add (i.toNat*(<-sizeOf elem))))))else if tiny=true then unsupported (.noEntry "op/indexAddr.an index out of range at an array of length 0 or 1 (ledger 616)")else boundsPanic k i len .index)
   (if 0<=i/\i<len then (do Pure.pure (.pointer (some (a'.add (i.toNat*(<-sizeOf elem))))))else if tiny=true then unsupported (.noEntry "op/indexAddr.an index out of range at an array of length 0 or 1 (ledger 616)")else boundsPanic k i len .index):=by
  intro a a' len elem B3 tiny ha;split
  ·refine Za (ZaN _) fun B5 n m hB5 hn=>?_;obtain rfl:=hn;exact Zx (.ofAddr ((ha.mono hB5).add _))
  ·split;·exact Zfr (by simp) _
   ·exact Zdn _ _ _ _
 cases d<;>try exact ZaM _ _
 ·rename_i elem;cases h'<;>try exact ZaM _ _
  ·refine Za (Q:=fun _ x y=>x=y/\x.1=none) (Zx ⟨rfl,rfl⟩) fun B3 x y hB3 hx=>?_;obtain⟨rfl,hx⟩:=hx;refine Za (Z4 t) fun B4 d4 d4' hB4 hd4=>?_;rw[hx];exact Zdn _ _ _ _
  ·rename_i a a' l c ha;refine Za (Q:=fun B x y=>x=(some a,l,elem)/\y=(some a',l,elem)) (Zx ⟨rfl,rfl⟩) fun B3 x y hB3 hx=>?_;obtain⟨rfl,rfl⟩:=hx;refine Za (Z4 t) fun B4 d4 d4' hB4 hd4=>?_;obtain⟨rfl,_⟩:=hd4;exact tail _ _ _ _ _ _ ((ha.mono hB3).mono hB4)
  ·rename_i a hz;refine Za (Q:=fun B x y=>x=(some a,0,elem)/\y=(some a,0,elem)) (Zx ⟨rfl,rfl⟩) fun B3 x y hB3 hx=>?_;obtain⟨rfl,rfl⟩:=hx;refine Za (Z4 t) fun B4 d4 d4' hB4 hd4=>?_;obtain⟨rfl,_⟩:=hd4;dsimp only;have hno:¬(0<=i/\i<((0:Nat):Int)):=by omega
   simp only[if_neg hno];split;·exact Zfr (by simp) _
   ·exact Zdn _ _ _ _
 ·rename_i len elem;refine Za (ZeD h') fun B3 a a' hB3 ha=>?_;refine Za (Q:=fun B x y=>x=(some a,len,elem)/\y=(some a',len,elem)) (Zx ⟨rfl,rfl⟩) fun B5 x y hB5 hx=>?_;obtain⟨rfl,rfl⟩:=hx;refine Za (Z4 t) fun B4 d4 d4' hB4 hd4=>?_;obtain⟨rfl,_⟩:=hd4;exact tail _ _ _ _ _ _ ((ha.mono hB5).mono hB4)
theorem Zft{v v':Value} (h:VR G B v v') (y:Nat) (c:BoundsCode):SR G QE B (Instr.sliceBound v y c) (Instr.sliceBound v' y c):=by
 unfold Instr.sliceBound;refine Za (ZeC h) fun B' k k' hB hk=>?_;obtain rfl:=hk;obtain⟨k,i⟩:=k;dsimp only;split;·exact Zx rfl
 ·exact Zdn _ _ _ _
def OV(G:Env)(B:Blk):Option Value->Option Value->Prop|some v,some v'=>VR G B v v'|none,none=>True|_,_=>False
theorem OV.mono{B':Blk} (h:B.le B') {o o':Option Value} (x:OV G B o o'):OV G B' o o':=by cases o<;>cases o'<;>first|exact x.elim|trivial|exact VR.mono h x
theorem ZE{γ δ:Type} {Q':Blk->γ->δ->Prop} {s s':Sem α} (h:SR G QE B s s') {f:α->Sem γ} {f':α->Sem δ} (hf:∀(B':Blk) (a:α),B.le B'->SR G Q' B' (f a) (f' a)):SR G Q' B (s>>=f) (s'>>=f'):=Za h fun B' a b hB hab=>by cases hab;exact hf B' a hB
theorem ZgH(lo lo':Option Value)(h m:Nat)(c:BoundsCode):OV G B lo lo'->SR G QE B (match lo with|some v=>do let l<-Instr.sliceBound v h c;Pure.pure (l,h,m);|none=>do let l<-(Pure.pure 0:Sem Nat);Pure.pure (l,h,m)) (match lo' with|some v=>do let l<-Instr.sliceBound v h c;Pure.pure (l,h,m);|none=>do let l<-(Pure.pure 0:Sem Nat);Pure.pure (l,h,m)):=by
 intro hl;cases lo<;>cases lo'<;>try exact hl.elim
 ·exact Zx rfl
 ·refine ZE (Zft hl _ _) fun B'' x hB'=>?_;exact Zx rfl
theorem ZdW{lo lo' hi hi' mx mx':Option Value} (hl:OV G B lo lo') (hh:OV G B hi hi') (hm:OV G B mx mx') (s:Bool) (len cap:Nat):SR G QE B (Instr.sliceBounds s len cap lo hi mx) (Instr.sliceBounds s len cap lo' hi' mx'):=by
 unfold Instr.sliceBounds;cases mx<;>cases mx'<;>try exact hm.elim
 ·cases hi<;>cases hi'<;>try exact hh.elim
  ·refine ZE (Zx rfl) fun B1 x hB1=>?_;refine ZE (Zx rfl) fun B2 y hB2=>?_;exact ZgH _ _ _ _ _ (OV.mono hB2 (OV.mono hB1 hl))
  ·refine ZE (Zx rfl) fun B1 x hB1=>?_;refine ZE (Zft (VR.mono hB1 hh) _ _) fun B2 y hB2=>?_;exact ZgH _ _ _ _ _ (OV.mono hB2 (OV.mono hB1 hl))
 ·refine ZE (Zft hm _ _) fun B1 x hB1=>?_;cases hi<;>cases hi'<;>try exact hh.elim
  ·exact SR.halt _ (.stuck _) _ trivial
  ·refine ZE (Zft (VR.mono hB1 hh) _ _) fun B2 y hB2=>?_;exact ZgH _ _ _ _ _ (OV.mono hB2 (OV.mono hB1 hl))
theorem Zfu{v v':Value} (h:VR G B v v') (y:Nat) (c:BoundsCode):SR G (fun _ a b=>a=b/\a<=y) B (Instr.sliceBound v y c) (Instr.sliceBound v' y c):=by
 unfold Instr.sliceBound;refine Za (ZeC h) fun B' k k' hB hk=>?_;obtain rfl:=hk;obtain⟨k,i⟩:=k;dsimp only;split;·exact Zx ⟨rfl,by omega⟩
 ·exact Zdn _ _ _ _
theorem ZgI(lo lo':Option Value)(c:BoundsCode):OV G B lo lo'->SR G (fun _ a b=>a=b/\a=(0,0,0)) B (match lo with|some v=>do let l<-Instr.sliceBound v 0 c;Pure.pure (l,0,0);|none=>do let l<-(Pure.pure 0:Sem Nat);Pure.pure (l,0,0)) (match lo' with|some v=>do let l<-Instr.sliceBound v 0 c;Pure.pure (l,0,0);|none=>do let l<-(Pure.pure 0:Sem Nat);Pure.pure (l,0,0)):=by
 intro hl;cases lo<;>cases lo'<;>try exact hl.elim
 ·exact Zx ⟨rfl,rfl⟩
 ·refine Za (Zfu hl _ _) fun B'' x y hB' hxy=>?_;obtain⟨rfl,h⟩:=hxy;exact Zx ⟨rfl,by rw[Nat.le_zero.1 h]⟩
theorem ZmJ{lo lo' hi hi' mx mx':Option Value} (hl:OV G B lo lo') (hh:OV G B hi hi') (hm:OV G B mx mx') (s:Bool):SR G (fun _ a b=>a=b/\a=(0,0,0)) B (Instr.sliceBounds s 0 0 lo hi mx) (Instr.sliceBounds s 0 0 lo' hi' mx'):=by
 unfold Instr.sliceBounds;cases mx<;>cases mx'<;>try exact hm.elim
 ·cases hi<;>cases hi'<;>try exact hh.elim
  ·refine Za (Q:=fun _ a b=>a=b/\a=0) (Zx ⟨rfl,rfl⟩) fun B1 x x' hB1 hx=>?_;obtain⟨rfl,rfl⟩:=hx;refine Za (Q:=fun _ a b=>a=b/\a=0) (Zx ⟨rfl,rfl⟩) fun B2 y y' hB2 hy=>?_;obtain⟨rfl,rfl⟩:=hy;exact ZgI _ _ _ (OV.mono hB2 (OV.mono hB1 hl))
  ·refine Za (Q:=fun _ a b=>a=b/\a=0) (Zx ⟨rfl,rfl⟩) fun B1 x x' hB1 hx=>?_;obtain⟨rfl,rfl⟩:=hx;refine Za (Zfu (VR.mono hB1 hh) _ _) fun B2 y y' hB2 hy=>?_;obtain⟨rfl,hy⟩:=hy;obtain rfl:=Nat.le_zero.1 hy;exact ZgI _ _ _ (OV.mono hB2 (OV.mono hB1 hl))
 ·refine Za (Zfu hm _ _) fun B1 x x' hB1 hx=>?_;obtain⟨rfl,hx⟩:=hx;obtain rfl:=Nat.le_zero.1 hx;cases hi<;>cases hi'<;>try exact hh.elim
  ·exact SR.halt _ (.stuck _) _ trivial
  ·refine Za (Zfu (VR.mono hB1 hh) _ _) fun B2 y y' hB2 hy=>?_;obtain⟨rfl,hy⟩:=hy;obtain rfl:=Nat.le_zero.1 hy;exact ZgI _ _ _ (OV.mono hB2 (OV.mono hB1 hl))
def OA(B:Blk):Option Addr->Option Addr->Prop|some v,some v'=>AddrR B v v'|none,none=>True|_,_=>False
theorem Zg{a a':Option Addr} (h:OA B a a') (l c:Nat):VR G B (.slice a l c) (.slice a' l c):=by cases a<;>cases a'<;>first|exact h.elim|exact .nilSlice _ _|exact .slice _ _ _ _ h
theorem ZmK{x x':Value} {lo lo' hi hi' mx mx':Option Value} (h:VR G B x x') (hl:OV G B lo lo') (hh:OV G B hi hi') (hm:OV G B mx mx') (t:TypeId):SR G (QV G) B (Instr.slice t x lo hi mx) (Instr.slice t x' lo' hi' mx'):=by
 unfold Instr.slice;refine Za (Z4 t) fun B' d d' hB hd=>?_;obtain⟨rfl,_⟩:=hd;replace h:=h.mono hB;replace hl:=OV.mono hB hl;replace hh:=OV.mono hB hh;replace hm:=OV.mono hB hm;cases d<;>try exact SR.halt _ (.stuck _) _ trivial
 ·
  cases h<;>try exact SR.halt _ (.stuck _) _ trivial
  rename_i s;cases mx<;>cases mx'<;>(try exact hm.elim);·refine ZE (ZdW (mx:=none) (mx':=none) hl hh trivial _ _ _) fun B1 x hB1=>?_;obtain⟨l,h,m⟩:=x;exact Zx (.string _)
  ·exact SR.halt _ (.stuck _) _ trivial
 ·
  rename_i arr;cases h;case nilPtr=>
   exact Za (Q:=fun B a a'=>AddrR B a a') (ZgG .nilPtr) fun B1 a a' hB1 ha=>by
    refine Za (Z4 _) fun B2 d d' hB2 hd=>?_;obtain⟨rfl,_⟩:=hd;cases d<;>try exact SR.halt _ (.stuck _) _ trivial
    refine ZE (ZdW (OV.mono hB2 (OV.mono hB1 hl)) (OV.mono hB2 (OV.mono hB1 hh)) (OV.mono hB2 (OV.mono hB1 hm)) _ _ _) fun B3 x hB3=>?_;obtain⟨l,h,m⟩:=x;refine ZE (ZaN _) fun B4 n hB4=>?_;have ha:=((ha.mono hB2).mono hB3).mono hB4;refine Zx (Zg ?_ _ _);split;·exact ha
    ·exact ha.add _
  case ptr a0 a0' ha0=>
   exact Za (Q:=fun B a a'=>AddrR B a a') (ZgG (.ptr _ _ ha0)) fun B1 a a' hB1 ha=>by
    refine Za (Z4 _) fun B2 d d' hB2 hd=>?_;obtain⟨rfl,_⟩:=hd;cases d<;>try exact SR.halt _ (.stuck _) _ trivial
    refine ZE (ZdW (OV.mono hB2 (OV.mono hB1 hl)) (OV.mono hB2 (OV.mono hB1 hh)) (OV.mono hB2 (OV.mono hB1 hm)) _ _ _) fun B3 x hB3=>?_;obtain⟨l,h,m⟩:=x;refine ZE (ZaN _) fun B4 n hB4=>?_;have ha:=((ha.mono hB2).mono hB3).mono hB4;refine Zx (Zg ?_ _ _);split;·exact ha
    ·exact ha.add _
  all_goals exact SR.halt _ (.stuck _) _ trivial
 ·
  rename_i elem;cases h<;>try exact SR.halt _ (.stuck _) _ trivial
  ·refine ZE (ZdW hl hh hm _ _ _) fun B1 x hB1=>?_;obtain⟨l,h,m⟩:=x;refine ZE (ZaN _) fun B4 n hB4=>?_;refine Zx (Zg ?_ _ _);split<;>trivial
  ·rename_i a a' len cap ha;refine ZE (ZdW hl hh hm _ _ _) fun B1 x hB1=>?_;obtain⟨l,h,m⟩:=x;refine ZE (ZaN _) fun B4 n hB4=>?_;have ha:=(ha.mono hB1).mono hB4;refine Zx (Zg ?_ _ _);split;·exact ha
   ·exact ha.add _
  ·rename_i a hz;refine Za (ZmJ hl hh hm _) fun B1 x x' hB1 hx=>?_;obtain⟨rfl,rfl⟩:=hx;refine ZE (ZaN _) fun B4 n hB4=>?_;exact Zx (.slice0 a hz)
theorem ZmL{x x':Value} {lo lo' hi hi' mx mx':Option Value} (h:VR G B x x') (hl:OV G B lo lo') (hh:OV G B hi hi') (hm:OV G B mx mx') (t:TypeId):SR G (QV G) B (Instr.sliceAt t x lo hi mx) (Instr.sliceAt t x' lo' hi' mx'):=by
 unfold Instr.sliceAt;refine Za (Z4 t) fun B' d d' hB hd=>?_;obtain⟨rfl,_⟩:=hd;replace h:=h.mono hB;replace hl:=OV.mono hB hl;replace hh:=OV.mono hB hh;replace hm:=OV.mono hB hm;cases d<;>try exact ZmK h hl hh hm t
 refine Za (ZeD h) fun B1 a a' hB1 ha=>?_;refine ZE (ZdW (OV.mono hB1 hl) (OV.mono hB1 hh) (OV.mono hB1 hm) _ _ _) fun B3 x hB3=>?_;obtain⟨l,h,m⟩:=x;refine ZE (ZaN _) fun B4 n hB4=>?_;have ha:=(ha.mono hB3).mono hB4;refine Zx (Zg ?_ _ _);split;·exact ha
 ·exact ha.add _
end
section
variable {G:Env} {α β:Type} {Q:Blk->α->β->Prop} {B:Blk}
theorem ZiH(off:Nat):∀{vs vs':List (Value×Nat)} {cs cs':Array Value},AR G B cs cs'->vs.map (·.2)=vs'.map (·.2)->(∀(i:Nat)(v v':Value×Nat),vs[i]?=some v->vs'[i]?=some v'->VR G B v.1 v'.1)->AR G B (vs.foldl (fun cs x=>cs.setIfInBounds (off+x.2) x.1) cs) (vs'.foldl (fun cs x=>cs.setIfInBounds (off+x.2) x.1) cs')|[],[],cs,cs',h,_,_=>h|[],v'::vs',_,_,_,h,_=>by simp at h|v::vs,[],_,_,_,h,_=>by simp at h|(v,j)::vs,(v',j')::vs',cs,cs',h,hm,hv=>by simp only[Zwa,Zvl]at hm;obtain⟨rfl,hm⟩:=hm;simp only[List.foldl_cons];exact ZiH off (vs:=vs) (vs':=vs') (h.set _ (hv 0 (v,j) (v',j) rfl rfl)) hm fun i u u' hu hu'=>hv (i+1) u u' (by simpa using hu) (by simpa using hu')
inductive PR (G:Env)(B:Blk):List (Nat×Value)->List (Nat×Value)->Prop|nil:PR G B [] []|cons (i:Nat) (v v':Value) (vs vs':List (Nat×Value)) (h:VR G B v v') (hs:PR G B vs vs'):PR G B ((i,v)::vs) ((i,v')::vs')
theorem PR.mono{B':Blk} (hB:B.le B') {vs vs':List (Nat×Value)} (h:PR G B vs vs'):PR G B' vs vs':=by induction h with|nil=>exact .nil|cons i v v' vs vs' h hs ih=>exact .cons i v v' vs vs' (h.mono hB) ih
theorem fill_r(place:Nat->Option (Nat×Nat)):∀{vs vs':List (Nat×Value)} {cs cs':Array Value},AR G B cs cs'->PR G B vs vs'->(Instr.fill place cs vs=none/\Instr.fill place cs' vs'=none)∨∃r r',Instr.fill place cs vs=some r/\Instr.fill place cs' vs'=some r'/\AR G B r r'|_,_,cs,cs',h,.nil=>.inr ⟨cs,cs',rfl,rfl,h⟩|_,_,cs,cs',h,.cons i v v' vs vs' hv hs=>by have hc:=hv.cells;unfold Instr.fill;cases hp:place i with|none=>exact .inl ⟨rfl,rfl⟩|some os=>
   obtain⟨off,size⟩:=os;dsimp only;rw[<-hc.size,<-h.size];split;·exact .inl ⟨rfl,rfl⟩
   ·rw[<-Array.foldl_toList,<-Array.foldl_toList];refine fill_r place (ZiH off h ?_ fun i u u' hu hu'=>?_) hs;·simp[hc.size]
    ·simp only[Array.toList_zipIdx,List.getElem?_zipIdx,Zuy,Zw9]at hu hu';obtain⟨x,hx,rfl⟩:=Zxf.1 hu;obtain⟨x',hx',rfl⟩:=Zxf.1 hu';exact hc.at_ i x x' hx hx'
theorem ZdX{v:Value} (h:Zbh 8 v=true):AR G B v.cells v.cells:=(VR.closed 8 v h).cells
theorem ZiI{γ δ:Type} (f:γ->Sem δ) (hf:∀(B:Blk) x,SR G QE B (f x) (f x)):∀(xs:List γ) (B:Blk),SR G QE B (xs.mapM f) (xs.mapM f)|[],B=>by simp only[Zv7];exact Zx rfl|x::xs,B=>by simp only[Zv6];refine ZE (hf B x) fun B1 a h1=>?_;refine ZE (ZiI f hf xs B1) fun B2 b h2=>?_;exact Zx rfl
theorem ZmM{t:TypeId} {ps ps':Array (Nat×Value)} (hz:G.zero t=true) (h:PR G B ps.toList ps'.toList):SR G (QV G) B (Instr.build t ps) (Instr.build t ps'):=by
 unfold Instr.build;refine Za (Zdm hz) fun B1 z z' h1 hzz=>?_;obtain⟨_,rfl,hzc⟩:=hzz;dsimp only;refine Za (Z4 t) fun B2 d d' h2 hd=>?_;obtain⟨rfl,_⟩:=hd;have hP:=(h.mono h1).mono h2;cases d<;>try exact SR.halt _ (.stuck _) _ trivial
 ·refine ZE (ZaN _) fun B3 n h3=>?_;rcases fill_r (fun i=>some (i*n,n)) (ZdX hzc) (hP.mono h3)with⟨e1,e2⟩|⟨r,r',e1,e2,hr⟩;·rw[e1,e2];exact SR.halt _ (.stuck _) _ trivial
  ·rw[e1,e2];exact Zx (Zf hr)
 ·rename_i fields;refine ZE (α:=Array (Nat×Nat)) ?_ fun B3 places h3=>?_
  ·simp only[Array.mapM_eq_mapM_toList];refine Za (Q:=QE) (ZiI _ (fun B x=>?_) _ _) fun B3 a b h3 hab=>by cases hab;exact Zx rfl
   exact ZE (ZaN _) fun B3 n h3=>Zx rfl
  ·rcases fill_r (places[·]?) (ZdX hzc) (hP.mono h3)with⟨e1,e2⟩|⟨r,r',e1,e2,hr⟩;·rw[e1,e2];exact SR.halt _ (.stuck _) _ trivial
   ·rw[e1,e2];exact Zx (Zf hr)
theorem ZmN{z:Array Value} (hz:AR G B z z)(hd:VR G B (default:Value) default)(i:Nat):VR G B z[i]! z[i]!:=by rw[getElem!_def];cases h:z[i]? with|none=>exact hd|some v=>exact hz.at_ i v v h h
theorem ZmO:VR G B (default:Value) default:=VR.bool false
theorem Zfv{z:Array Value} (hz:AR G B z z) (n:Nat):AR G B ((Array.range n).map (fun i=>z[i%z.size]!)) ((Array.range n).map (fun i=>z[i%z.size]!)):=by refine⟨rfl,fun i v v' hv hv'=>?_⟩;rw[hv]at hv';cases hv';rw[Zup]at hv;obtain⟨x,hx,rfl⟩:=Zxf.1 hv;exact ZmN hz ZmO _
theorem ZmP{t:TypeId} {len:Nat} {ps ps':Array (Nat×Value)} (hz:G.zeroElem t=true) (h:PR G B ps.toList ps'.toList):SR G (QV G) B (Instr.buildSlice t len ps) (Instr.buildSlice t len ps'):=by
 unfold Instr.buildSlice;refine Za (Z4 t) fun B1 d d' h1 hd=>?_;obtain⟨rfl,hd⟩:=hd;cases d<;>try exact SR.halt _ (.stuck _) _ trivial
 rename_i elem;unfold Env.zeroElem at hz;rw[hd]at hz;dsimp only at hz |-;refine ZE (ZaN _) fun B2 n h2=>?_;split;·exact SR.halt _ (.unsupported _) _ trivial
 ·have key:∀(B3:Blk)(z:Array Value),B2.le B3->AR G B3 z z->SR G (QV G) B3 (match Instr.fill (fun i=>some (i*n,n)) ((Array.range (len*n)).map (fun i=>z[i%z.size]!)) ps.toList with|some cells=>do Pure.pure (.slice (some (<-newRow elem cells)) len len);|_=>stuck "buildSlice: a part of the wrong size")
    (match Instr.fill (fun i=>some (i*n,n)) ((Array.range (len*n)).map (fun i=>z[i%z.size]!)) ps'.toList with|some cells=>do Pure.pure (.slice (some (<-newRow elem cells)) len len);|_=>stuck "buildSlice: a part of the wrong size"):=by
   intro B3 z h3 hz;rcases fill_r (fun i=>some (i*n,n)) (Zfv hz _) (((h.mono h1).mono h2).mono h3)with⟨e1,e2⟩|⟨r,r',e1,e2,hr⟩;·rw[e1,e2];exact SR.halt _ (.stuck _) _ trivial
   ·rw[e1,e2];exact Za (ZdU elem hr) fun B4 a a' h4 ha=>Zx (.slice _ _ _ _ ha)
  split;·refine Za (Q:=fun B a b=>a=b/\AR G B a a) (Zx ⟨rfl,AR.empty⟩) fun B3 a b h3 hab=>?_;obtain⟨rfl,ha⟩:=hab;exact key B3 a h3 ha
  ·refine Za (Zdm hz) fun B3 z z' h3 hzz=>?_;obtain⟨_,rfl,hzc⟩:=hzz;refine Za (Q:=fun B a b=>a=b/\AR G B a a) (Zx ⟨rfl,ZdX hzc⟩) fun B4 a b h4 hab=>?_;obtain⟨rfl,ha⟩:=hab;exact key B4 a (Blk.le_trans h3 h4) ha
theorem ZmQ{t:TypeId} {l l' c c':Value} (hz:G.zeroElem t=true) (hl:VR G B l l') (hc:VR G B c c'):SR G (QV G) B (Instr.makeSlice t l c) (Instr.makeSlice t l' c'):=by
 unfold Instr.makeSlice;refine Za (Z4 t) fun B1 d d' h1 hd=>?_;obtain⟨rfl,hd⟩:=hd;cases d<;>try exact SR.halt _ (.stuck _) _ trivial
 rename_i elem;unfold Env.zeroElem at hz;rw[hd]at hz;dsimp only at hz |-;refine ZE (ZdV (hl.mono h1)) fun B2 len h2=>?_;refine ZE (ZdV ((hc.mono h1).mono h2)) fun B3 cap h3=>?_;refine Za (Zbw elem) fun B4 i i' h4 hi=>?_;obtain⟨rfl,_⟩:=hi;have pan:∀(B5:Blk) (e:RuntimeError) (f f':Unit->Sem Value),(match e with|.bounds ..|.error _|.plain _|.nilDeref=>True|_=>False)->SR G (QV G) B5 (runtimePanic e>>=f) (runtimePanic e>>=f'):=fun B5 e f f' he=>Za (Q:=fun _ _ _=>False) (ZbY he) fun _ _ _ _ h=>h.elim;split
 ·split;·exact pan _ _ _ _ trivial
  ·split;·exact pan _ _ _ _ trivial
   ·refine ZE (Zdl _) fun B5 x h5=>?_;split<;>exact pan _ _ _ _ trivial
 ·refine Za (ZgC _) fun B6 _ _ h6 _=>?_;refine ZE (ZaN _) fun B7 n h7=>?_;split;·refine Za (Q:=fun B a b=>a=b/\AR G B a a) (Zx ⟨rfl,AR.empty⟩) fun B3 a b h3 hab=>?_;obtain⟨rfl,ha⟩:=hab;exact Za (ZdU elem (Zfv ha _)) fun B4 a a' h4 ha=>Zx (.slice _ _ _ _ ha)
  ·refine Za (Zdm hz) fun B3 z z' h3 hzz=>?_;obtain⟨_,rfl,hzc⟩:=hzz;refine Za (Q:=fun B a b=>a=b/\AR G B a a) (Zx ⟨rfl,ZdX hzc⟩) fun B4 a b h4 hab=>?_;obtain⟨rfl,ha⟩:=hab;exact Za (ZdU elem (Zfv ha _)) fun B4 a a' h4 ha=>Zx (.slice _ _ _ _ ha)
theorem ZgJ{v v':Value} (h:VR G B v v'):SR G (fun _ n m=>n=m/\∀b l c,v=.slice b l c->n=l) B (Builtin.lenOf v) (Builtin.lenOf v'):=by cases h<;>first|exact Zx ⟨rfl,fun b l c h=>by cases h;rfl⟩|exact SR.halt _ (.stuck _) _ trivial|exact Zx ⟨rfl,fun b l c h=>by cases h⟩
theorem Zdo{v v':Value} (h:VR G B v v') (size n:Nat) (hn:∀b l c,v=.slice b l c->n<=l):SR G (QA G) B (Builtin.firstCells size n v) (Builtin.firstCells size n v'):=by cases h with|slice0 a hz=>obtain rfl:=Nat.le_zero.1 (hn _ _ _ rfl);unfold Builtin.firstCells;rw[Zxb];exact Zx AR.empty|slice a a' l c ha=>exact ZgD ha _|nilSlice l c=>exact Zx AR.empty|string s=>refine Zx ⟨rfl,fun i v v' hv hv'=>?_⟩;rw[hv]at hv';cases hv';rw[Zup]at hv;obtain⟨x,hx,rfl⟩:=Zxf.1 hv;exact .int _ _|_=>exact SR.halt _ (.stuck _) _ trivial
theorem ZiJ{z:Array Value} (hz:AR G B z z) (n:Nat):AR G B (Builtin.zeroCells z n) (Builtin.zeroCells z n):=Zfv hz _
theorem AR.arg{xs xs':Array Value} (h:AR G B xs xs')(i:Nat):OV G B xs[i]? xs'[i]?:=by cases hv:xs[i]? with|none=>rw[h.none hv];trivial|some v=>obtain⟨v',h1,h2⟩:=h.get hv;rw[h1];exact h2
def OS(G:Env)(B:Blk)(b b':Option Addr)(l c:Nat):Prop:=OA B b b'∨(G.z0=true/\b=b'/\l=0/\c=0)
theorem VR.slice_or{v v':Value} (h:VR G B v v'):(∀b l c,v≠.slice b l c)∨∃b b' l c,v=.slice b l c/\v'=.slice b' l c/\OS G B b b' l c:=by cases h with|nilSlice l c=>exact .inr ⟨none,none,l,c,rfl,rfl,.inl trivial⟩|slice a a' l c ha=>exact .inr ⟨some a,some a',l,c,rfl,rfl,.inl ha⟩|slice0 a hz=>exact .inr ⟨some a,some a,0,0,rfl,rfl,.inr ⟨hz,rfl,rfl,rfl⟩⟩|_=>exact .inl (by simp)
theorem OA.mono{B':Blk} (hB:B.le B') {a a':Option Addr} (h:OA B a a'):OA B' a a':=by cases a<;>cases a'<;>first|exact h.elim|trivial|exact AddrR.mono hB h
theorem OS.mono{B':Blk} (hB:B.le B') {a a':Option Addr} {l c:Nat} (h:OS G B a a' l c):OS G B' a a' l c:=h.imp (OA.mono hB) id
theorem ZgK{v v':Value} (h:VR G B v v') (size:Nat):SR G (fun _ c c'=>c=#[]/\c'=#[]) B (Builtin.firstCells size 0 v) (Builtin.firstCells size 0 v'):=by cases h with
 |slice a a' l c ha=>unfold Builtin.firstCells;rw[Zxb];exact Zx ⟨rfl,rfl⟩|slice0 a hz=>unfold Builtin.firstCells;rw[Zxb];exact Zx ⟨rfl,rfl⟩|nilSlice l c=>exact Zx ⟨rfl,rfl⟩|string s=>
  have e:((s.extract 0 0).data.map fun b=>Value.int .u8 b.toNat)=#[]:=by apply Array.eq_empty_of_size_eq_zero;simp
  unfold Builtin.firstCells;simp only[e];exact Zx ⟨rfl,rfl⟩|_=>exact SR.halt _ (.stuck _) _ trivial
theorem Zfw(e:RuntimeError) (he:match e with|.bounds ..|.error _|.plain _|.nilDeref=>True|_=>False) {f:α->Sem β} {γ:Type} {f':α->Sem γ} {Q:Blk->β->γ->Prop}:SR G Q B (runtimePanic e>>=f) (runtimePanic e>>=f'):=Za (Q:=fun _ _ _=>False) (ZbY he) fun _ _ _ _ h=>h.elim
theorem ZmR(P:Program)(a:Addr)(n:Nat)(l:World):∃b,(Builtin.holdsCells a n).run P l=.ok b l:=by unfold Builtin.holdsCells;cases h:l.shape? a.block<;>simp[h]
theorem ZiK(P:Program)(size sLen n:Nat)(base:Option Addr)(x:Value)(l:World):∃b,(Builtin.mayShare size sLen n base x).run P l=.ok b l:=by
 have hc:∀a n,∃b,(Builtin.holdsCells a n).run P l=.ok b l:=fun a n=>ZmR P a n l;unfold Builtin.mayShare;have fin:∀{there:Bool} (o:Option Addr),∃b,(do
   if !there then return true
   match x with|.slice (some b) _ _=>do Pure.pure (!(<-Builtin.holdsCells b (n*size))||o.any (fun c=>c.block==b.block));|_=>Pure.pure false:Sem Bool).run P l=Result.ok b l:=by
  intro there o;cases there;·exact⟨_,rfl⟩
  ·cases x<;>try exact⟨_,rfl⟩
   rename_i a _ _;cases a with|none=>exact⟨_,rfl⟩|some b=>obtain⟨c,h⟩:=hc b (n*size);simp[h]
 cases base with
 |none=>exact fin (there:=true) none|some a=>obtain⟨d,h'⟩:=hc a (sLen*size);obtain⟨c,h⟩:=fin (there:=d&&!(l.frozen? (a.add (sLen / 2*size)))) (some a);refine⟨c,Eq.trans ?_ h⟩;simp only[Sem.run_bind,h',Result.andThen_ok,run_frozen,Sem.run_pure];rfl
theorem ZmS{ts:Array TypeId} {t:TypeId} {xs xs':Array Value} (hz:∀s,ts[0]?=some s->G.zeroElem s=true) (hnz:∀s k,ts[1]?=some s->G.P.underlying s≠some (.int k)) (h:AR G B xs xs'):SR G (QV G) B (Builtin.append_ ts t xs) (Builtin.append_ ts t xs'):=by unfold Builtin.append_;have a0:=h.arg 0;have a1:=h.arg 1;generalize xs[0]?=x0 at a0 |-;generalize xs'[0]?=x0' at a0 |-;generalize xs[1]?=x1 at a1 |-;generalize xs'[1]?=x1' at a1 |-;cases hs:ts[0]? with
 |none=>exact SR.halt _ (.stuck _) _ trivial|some sT=>
 have hz:=hz sT hs;cases x0<;>cases x0'<;>(try exact a0.elim);·exact SR.halt _ (.stuck _) _ trivial
 cases x1<;>cases x1'<;>(try exact a1.elim);·exact SR.halt _ (.stuck _) _ trivial
 rename_i s s' x x';change VR G B s s' at a0;change VR G B x x' at a1;dsimp only;refine Za (Z4 sT) fun B1 d d' h1 hd=>?_;obtain⟨rfl,hd⟩:=hd;cases d<;>try exact SR.halt _ (.stuck _) _ trivial
 rename_i elem;unfold Env.zeroElem at hz;rw[hd]at hz;dsimp only at hz |-;replace a0:=a0.mono h1;replace a1:=a1.mono h1;rcases a0.slice_or with hno|⟨base,base',sLen,sCap,rfl,rfl,hb⟩;·cases a0<;>first|exact absurd rfl (hno _ _ _)|exact SR.halt _ (.stuck _) _ trivial
 dsimp only;refine ZE (ZaN _) fun B2 size h2=>?_;replace hb:=OS.mono h2 hb;replace a1:=a1.mono h2;replace a0:=a0.mono h2;cases h1':ts[1]?;case none=>
  refine Za (Q:=fun _ a b=>a=false/\b=false) (Zx ⟨rfl,rfl⟩) fun B3 z z' h3 hzz=>?_;obtain⟨rfl,rfl⟩:=hzz;rw[if_neg (by simp),if_neg (by simp)];refine Za (ZgJ (a1.mono h3)) fun B4 n n' h4 hnn=>?_;obtain⟨rfl,hnl⟩:=hnn;have h34:=Blk.le_trans h3 h4;replace hb:=OS.mono h34 hb;split
  ·rename_i hroom;rcases hb with hb|⟨hz0,rfl,rfl,rfl⟩
   ·refine Za (Q:=QA G) ?_ fun B5 c c' h5 hc=>?_;·rw[if_pos (by rfl),if_pos (by rfl)];exact Zdo (a1.mono h34) _ _ fun b l c h=>ZwN (hnl b l c h)
    have hb':=OA.mono h5 hb;cases base<;>cases base'<;>try exact hb'.elim
    ·exact Zx (Zg hb' _ _)
    ·refine Za (ZeB 0 (AddrR.add hb' _) hc.list) fun B5 _ _ h5 _=>?_;exact Zx (Zg (OA.mono h5 (a:=some _) (a':=some _) hb') _ _)
   ·obtain rfl:n=0:=by omega
    refine Za (Q:=fun _ c c'=>c=#[]/\c'=#[]) ?_ fun B5 c c' h5 hc=>?_;·rw[if_pos (by rfl),if_pos (by rfl)];exact ZgK (a1.mono h34) _
    obtain⟨rfl,rfl⟩:=hc;cases base with
    |none=>exact Zx (.nilSlice _ _)|some a=>exact Zx (.slice0 a hz0)
  ·refine Za (Zbw elem) fun B5 i i' h5 hi=>?_;obtain⟨rfl,_⟩:=hi;split;·exact Zfw _ trivial
   ·refine Za (Zbw elem) fun B6 i i' h6 hi=>?_;obtain⟨rfl,_⟩:=hi;split
    ·refine SR.dead _ _ _ fun l _=>?_;obtain⟨b,hb⟩:=ZiK G.P size sLen n base x l;refine⟨.unsupported (.resourceLimit "append: a slice or a string whose bytes no memory bears"),l,?_,trivial,fun _ _=>rfl⟩;cases b<;>simp[hb]
    ·refine ZE (Zdl _) fun B7 newCap h7=>?_;refine Za (Zbw elem) fun B8 i i' h8 hi=>?_;obtain⟨rfl,_⟩:=hi;refine Za (ZgC _) fun B9 _ _ h9 _=>?_;have h39:=Blk.le_trans h34 (Blk.le_trans h5 (Blk.le_trans h6 (Blk.le_trans h7 (Blk.le_trans h8 h9))));refine Za (Zdo (a0.mono h39) _ _ fun b l c h=>(by cases h;exact ZwO _)) fun B10 c c' h10 hc=>?_;refine Za (Q:=QA G) ?_ fun B11 e e' h11 he=>?_;·rw[if_pos (by rfl),if_pos (by rfl)];exact Zdo ((a1.mono h39).mono h10) _ _ fun b l c h=>ZwN (hnl b l c h)
     refine Za (Zdm hz) fun B12 z z' h12 hzz=>?_;obtain⟨_,rfl,hzc⟩:=hzz;refine Za (ZdU elem ((AR.append ((hc.mono h11).mono h12) (he.mono h12)).append (ZiJ (ZdX hzc) _))) fun B13 r r' h13 hr=>?_;exact Zx (.slice _ _ _ _ hr)
 case some xT=>
  refine Za (Z4 xT) fun B2' d d' h2' hd'=>?_;obtain⟨rfl,hd'⟩:=hd';refine Za (Q:=fun _ a b=>a=false/\b=false) (Zx ?_) fun B3 z z' h3' hzz=>?_;·cases d<;>first|exact⟨rfl,rfl⟩|exact absurd hd' (hnz _ _ h1')
  have h3:=Blk.le_trans h2' h3';obtain⟨rfl,rfl⟩:=hzz;rw[if_neg (by simp),if_neg (by simp)];refine Za (ZgJ (a1.mono h3)) fun B4 n n' h4 hnn=>?_;obtain⟨rfl,hnl⟩:=hnn;have h34:=Blk.le_trans h3 h4;replace hb:=OS.mono h34 hb;split
  ·rename_i hroom;rcases hb with hb|⟨hz0,rfl,rfl,rfl⟩
   ·refine Za (Q:=QA G) ?_ fun B5 c c' h5 hc=>?_;·rw[if_pos (by rfl),if_pos (by rfl)];exact Zdo (a1.mono h34) _ _ fun b l c h=>ZwN (hnl b l c h)
    have hb':=OA.mono h5 hb;cases base<;>cases base'<;>try exact hb'.elim
    ·exact Zx (Zg hb' _ _)
    ·refine Za (ZeB 0 (AddrR.add hb' _) hc.list) fun B5 _ _ h5 _=>?_;exact Zx (Zg (OA.mono h5 (a:=some _) (a':=some _) hb') _ _)
   ·obtain rfl:n=0:=by omega
    refine Za (Q:=fun _ c c'=>c=#[]/\c'=#[]) ?_ fun B5 c c' h5 hc=>?_;·rw[if_pos (by rfl),if_pos (by rfl)];exact ZgK (a1.mono h34) _
    obtain⟨rfl,rfl⟩:=hc;cases base with
    |none=>exact Zx (.nilSlice _ _)|some a=>exact Zx (.slice0 a hz0)
  ·refine Za (Zbw elem) fun B5 i i' h5 hi=>?_;obtain⟨rfl,_⟩:=hi;split;·exact Zfw _ trivial
   ·refine Za (Zbw elem) fun B6 i i' h6 hi=>?_;obtain⟨rfl,_⟩:=hi;split
    ·refine SR.dead _ _ _ fun l _=>?_;obtain⟨b,hb⟩:=ZiK G.P size sLen n base x l;refine⟨.unsupported (.resourceLimit "append: a slice or a string whose bytes no memory bears"),l,?_,trivial,fun _ _=>rfl⟩;cases b<;>simp[hb]
    ·refine ZE (Zdl _) fun B7 newCap h7=>?_;refine Za (Zbw elem) fun B8 i i' h8 hi=>?_;obtain⟨rfl,_⟩:=hi;refine Za (ZgC _) fun B9 _ _ h9 _=>?_;have h39:=Blk.le_trans h34 (Blk.le_trans h5 (Blk.le_trans h6 (Blk.le_trans h7 (Blk.le_trans h8 h9))));refine Za (Zdo (a0.mono h39) _ _ fun b l c h=>(by cases h;exact ZwO _)) fun B10 c c' h10 hc=>?_;refine Za (Q:=QA G) ?_ fun B11 e e' h11 he=>?_;·rw[if_pos (by rfl),if_pos (by rfl)];exact Zdo ((a1.mono h39).mono h10) _ _ fun b l c h=>ZwN (hnl b l c h)
     refine Za (Zdm hz) fun B12 z z' h12 hzz=>?_;obtain⟨_,rfl,hzc⟩:=hzz;refine Za (ZdU elem ((AR.append ((hc.mono h11).mono h12) (he.mono h12)).append (ZiJ (ZdX hzc) _))) fun B13 r r' h13 hr=>?_;exact Zx (.slice _ _ _ _ hr)
theorem ZbZ(n:Int):VR G B (goInt n) (goInt n):=.int _ _
theorem ZmT{ts:Array TypeId} {t:TypeId} {xs xs':Array Value} (hc:∀s d e,ts[0]?=some s->G.P.underlying s≠some (.chan d e)) (h:AR G B xs xs'):SR G (QV G) B (Builtin.len_ ts t xs) (Builtin.len_ ts t xs'):=by unfold Builtin.len_;have a0:=h.arg 0;generalize xs[0]?=x0 at a0 |-;generalize xs'[0]?=x0' at a0 |-;cases hs:ts[0]? with
  |none=>exact SR.halt _ (.stuck _) _ trivial|some sT=>
  cases x0<;>cases x0'<;>(try exact a0.elim);· exact SR.halt _ (.stuck _) _ trivial
  rename_i s s';change VR G B s s' at a0;refine Za (Z4 sT) fun B1 d d' h1 hd=>?_;obtain⟨rfl,hd⟩:=hd;have hc':=fun d e=>hc sT d e hs;cases d<;>cases a0<;>first|(exfalso;exact hc' _ _ hd;done)|exact Zx (ZbZ _)|exact SR.halt _ (.stuck _) _ trivial| (refine Za (Z4 _) fun B2 d2 d2' h2 hd2 => ?_;obtain⟨rfl,_⟩:=hd2;cases d2<;>first|exact Zx (ZbZ _)|exact SR.halt _ (.stuck _) _ trivial)
theorem ZmU{ts:Array TypeId} {t:TypeId} {xs xs':Array Value} (hc:∀s d e,ts[0]?=some s->G.P.underlying s≠some (.chan d e)) (h:AR G B xs xs'):SR G (QV G) B (Builtin.cap_ ts t xs) (Builtin.cap_ ts t xs'):=by unfold Builtin.cap_;have a0:=h.arg 0;generalize xs[0]?=x0 at a0 |-;generalize xs'[0]?=x0' at a0 |-;cases hs:ts[0]? with
  |none=>exact SR.halt _ (.stuck _) _ trivial|some sT=>
  cases x0<;>cases x0'<;>(try exact a0.elim);· exact SR.halt _ (.stuck _) _ trivial
  rename_i s s';change VR G B s s' at a0;refine Za (Z4 sT) fun B1 d d' h1 hd=>?_;obtain⟨rfl,hd⟩:=hd;have hc':=fun d e=>hc sT d e hs;cases d<;>cases a0<;>first|(exfalso;exact hc' _ _ hd;done)|exact Zx (ZbZ _)|exact SR.halt _ (.stuck _) _ trivial| (refine Za (Z4 _) fun B2 d2 d2' h2 hd2 => ?_;obtain⟨rfl,_⟩:=hd2;cases d2<;>first|exact Zx (ZbZ _)|exact SR.halt _ (.stuck _) _ trivial)
end
section
variable {G:Env} {α β:Type} {Q:Blk->α->β->Prop} {B:Blk}
theorem Zdp(op:BinOp)(k:IntKind)(a b:Int)(s:Sem Value)(hs:s=Op.intArith op k a b∨s=Op.intDiv op k a b∨s=Op.intBits op k a b∨s=Op.intCmp op a b∨∃k',s=Op.shift op k a k' b):SR G (QV G) B s s:=by
 rcases hs with rfl|rfl|rfl|rfl|⟨k',rfl⟩;·unfold Op.intArith;split<;>first|exact Zx (.int _ _)|exact SR.halt _ (.stuck _) _ trivial
 ·unfold Op.intDiv;split;·exact ZbY trivial
  ·split<;>first|exact Zx (.int _ _)|exact SR.halt _ (.stuck _) _ trivial
 ·unfold Op.intBits;dsimp only;split<;>first|exact Zx (.int _ _)|exact SR.halt _ (.stuck _) _ trivial
 ·unfold Op.intCmp;split<;>first|exact Zx (.bool _)|exact SR.halt _ (.stuck _) _ trivial
 ·unfold Op.shift;split;·exact ZbY trivial
  ·dsimp only;split<;>first|exact Zx (.int _ _)|exact SR.halt _ (.stuck _) _ trivial
theorem ZgL(op:BinOp) (a b:ByteArray):SR G (QV G) B (Op.stringOp op a b) (Op.stringOp op a b):=by
 unfold Op.stringOp;dsimp only;split
 ·split;·exact SR.halt _ (.unsupported _) _ trivial
  ·exact Zx (.string _)
 all_goals first|exact Zx (.bool _)|exact SR.halt _ (.stuck _) _ trivial
theorem ZmV(op:UnOp) {v v':Value} (h:VR G B v v'):SR G (QV G) B (Op.unary op v) (Op.unary op v'):=by unfold Op.unary;cases op<;>cases h<;>first|exact SR.halt _ (.stuck _) _ trivial|exact SR.halt _ (.unsupported _) _ trivial|exact Zx (.bool _)|exact Zdp _ _ _ _ _ (.inl rfl)|exact Zdp _ _ _ _ _ (.inr (.inr (.inl rfl)))
theorem ZgM{γ σ:Type} (f f':γ->σ->Sem (ForInStep σ)):∀(xs:List γ) (s:σ) {B:Blk},(∀(B':Blk) x s,B.le B'->SR G QE B' (f x s) (f' x s))->SR G QE B (forIn xs s f) (forIn xs s f')|[],s,B,h=>by simp only[List.forIn_nil];exact Zx rfl|x::xs,s,B,h=>by simp only[List.forIn_cons];refine ZE (h B x s (Blk.le_refl _)) fun B1 r h1=>?_;cases r with|done s=>exact Zx rfl|yield s=>exact ZgM f f' xs s fun B2 x s h2=>h B2 x s (Blk.le_trans h1 h2)
theorem ZmW{γ σ:Type} (xs:Array γ) (s:σ) (f f':γ->σ->Sem (ForInStep σ)) (h:∀(B':Blk) x s,B.le B'->SR G QE B' (f x s) (f' x s)):SR G QE B (forIn xs s f) (forIn xs s f'):=by rw[<-Zui,<-Zui];exact ZgM f f' _ _ h
theorem ZiL{γ σ:Type} (f f':γ->σ->Sem (ForInStep σ)):∀(xs:List γ) (s:σ) {B:Blk},(∀(B':Blk) x s,x∈xs->B.le B'->SR G QE B' (f x s) (f' x s))->SR G QE B (forIn xs s f) (forIn xs s f')|[],s,B,h=>by simp only[List.forIn_nil];exact Zx rfl|x::xs,s,B,h=>by simp only[List.forIn_cons];refine ZE (h B x s (by simp) (Blk.le_refl _)) fun B1 r h1=>?_;cases r with|done s=>exact Zx rfl|yield s=>exact ZiL f f' xs s fun B2 x s hx h2=>h B2 x s (by simp[hx]) (Blk.le_trans h1 h2)
theorem ZmX{γ σ:Type} (xs:Array γ) (s:σ) (f f':γ->σ->Sem (ForInStep σ)) (h:∀(B':Blk) x s,x∈xs->B.le B'->SR G QE B' (f x s) (f' x s)):SR G QE B (forIn xs s f) (forIn xs s f'):=by rw[<-Zui,<-Zui];exact ZiL f f' _ _ fun B' x s hx=>h B' x s (by simpa using hx)
theorem ZiM{σ:Type} (n:Nat) (s:σ) (f f':Nat->σ->Sem (ForInStep σ)) (h:∀(B':Blk) x s,B.le B'->SR G QE B' (f x s) (f' x s)):SR G QE B (forIn [0:n] s f) (forIn [0:n] s f'):=by rw[Std.Legacy.Range.forIn_eq_forIn_range',Std.Legacy.Range.forIn_eq_forIn_range'];exact ZgM f f' _ _ h
theorem ZiN{r r':Nat} (h:B r r'):SR G (fun _ a b=>a=none/\b=none) B (viewAt r) (viewAt r'):=by
 unfold viewAt;refine ZE (ZcN h) fun B1 s h1=>?_;split;·exact Zx ⟨rfl,rfl⟩
 ·refine Za (ZdT (h1 _ _ h)) fun B2 o o' h2 ho=>?_;cases ho<;>exact Zx ⟨rfl,rfl⟩
theorem ZgN{a a':Addr} (h:AddrR B a a'):SR G QU B (noView a) (noView a'):=by unfold noView;cases h with|mk b b' o s hb=>refine Za (ZiN hb) fun B1 x y h1 hx=>?_;obtain⟨rfl,rfl⟩:=hx;exact Zx trivial
theorem Zfx{a a':Addr} (hs:G.sh=false) (h:AddrR B a a'):SR G QE B (frozen a) (frozen a'):=SR.mono (Zmw h) fun _ _ _ _ x=>x hs
theorem ZiO{a a':Addr} (hs:G.sh=false) (h:AddrR B a a'):SR G QE B (stringish a) (stringish a'):=by
 unfold stringish;refine ZE (Zfx hs h) fun B1 x h1=>?_;split;·exact Zx rfl
 ·cases h with|mk b b' o s hb=>
   refine ZE (ZcN (h1 _ _ hb)) fun B2 s h2=>?_;split;·exact Zfx hs (.mk _ _ _ _ (h2 _ _ (h1 _ _ hb)))
   ·exact Zx rfl
theorem ZmY{a a' b b':Addr} (hs:G.sh=false) (ha:AddrR B a a') (hb:AddrR B b b'):SR G QE B (mayBeOne a b) (mayBeOne a' b'):=by
 unfold mayBeOne;have none_:∀(B':Blk) (x x':Addr),AddrR B' x x'->SR G QE B' (do Pure.pure ((<-shape x.block) matches some (_,0))) (do Pure.pure ((<-shape x'.block) matches some (_,0))):=by intro B' x x' hx;cases hx with|mk b b' o s hb=>exact ZE (ZcN hb) fun B2 s h2=>Zx rfl
 refine ZE (ZiO hs ha) fun B1 x h1=>?_;refine ZE (ZiO hs (hb.mono h1)) fun B2 y h2=>?_;dsimp only;have ha:=(ha.mono h1).mono h2;have hb:=(hb.mono h1).mono h2;refine ZE (none_ _ _ _ ha) fun B3 z h3=>?_;refine ZE (none_ _ _ _ (hb.mono h3)) fun B4 z h4=>?_;exact Zx rfl
theorem AddrR.eq(hB:∀b b',B b b'->b=b') {a a':Addr} (h:AddrR B a a'):a=a':=by cases h with|mk b b' o s hb=>rw[hB _ _ hb]
theorem ZiP{a a' b b':Addr} (hs:G.sh=false) (ha:AddrR B a a') (hb:AddrR B b b'):SR G QE B (sameAddr a b) (sameAddr a' b'):=by
 refine .bij _ _ _ fun hB=>?_;unfold sameAddr;have e:(a.block==b.block)=(a'.block==b'.block)/\(a.block=b.block->(a==b)=(a'==b')):=by rw[ha.eq (hB.idn hs),hb.eq (hB.idn hs)];exact⟨rfl,fun _=>rfl⟩
 by_cases hblk:a.block=b.block
 ·have h1:(a.block==b.block)=true:=by simpa using hblk
  rw[if_pos h1,if_pos (e.1▸h1),e.2 hblk];exact Zx rfl
 ·have h1:¬(a.block==b.block)=true:=by simpa using hblk
  rw[if_neg h1,if_neg (e.1▸h1)];refine ZE (Zfx hs ha) fun B1 x h1=>?_;refine ZE (Zfx hs (hb.mono h1)) fun B2 y h2=>?_;split;·exact SR.halt _ (.unsupported _) _ trivial
  ·refine Za (ZgN ((ha.mono h1).mono h2)) fun B3 _ _ h3 _=>?_;refine Za (ZgN (((hb.mono h1).mono h2).mono h3)) fun B4 _ _ h4 _=>?_;refine ZE (ZmY hs ((((ha.mono h1).mono h2).mono h3).mono h4) ((((hb.mono h1).mono h2).mono h3).mono h4)) fun B5 z h5=>?_;split;·exact ZE (Zdl _) fun B6 n h6=>Zx rfl
   ·exact Zx rfl
theorem ZmZ{a a' b b':Addr} (hB:Bij G B)(ha:AddrR B a a')(hb:AddrR B b b'):(a==b)=(a'==b'):=by cases ha with|mk x x' o s hx=>cases hb with|mk y y' p r hy=>
   rw[ZuP];simp only[beq_iff_eq,Addr.mk.injEq];constructor;·rintro⟨rfl,rfl,rfl⟩;exact⟨hB.fn _ _ _ hx hy,rfl,rfl⟩
   ·rintro⟨rfl,rfl,rfl⟩;exact⟨hB.inj _ _ _ hx hy,rfl,rfl⟩
def Zm0(B:Blk):Option (Addr×Bool)->Option (Addr×Bool)->Prop|none,none=>True|some x,some y=>AddrR B x.1 y.1/\x.2=y.2|_,_=>False
theorem ZiQ{r r':Nat} (h:B r r'):SR G (fun B x y=>Zm0 B x y) B (numberAt r) (numberAt r'):=by
 unfold numberAt;refine ZE (ZcN h) fun B1 s h1=>?_;split;·exact Zx trivial
 ·refine Za (ZdT (h1 _ _ h)) fun B2 o o' h2 ho=>?_;cases ho<;>first|exact Zx trivial|exact Zx ⟨‹_›,rfl⟩
theorem Zbi{a a':Addr} (h:AddrR B a a'):SR G (fun B x y=>AddrR B x.1 y.1/\x.2=y.2) B (behindNumber a) (behindNumber a'):=by have h0:=h;unfold behindNumber;cases h with|mk b b' o s hb=>
  refine Za (ZiQ hb) fun B1 x y h1 hx=>?_;cases x<;>cases y<;>try exact hx.elim
  ·exact Zx ⟨h0.mono h1,rfl⟩
  ·exact Zx hx
theorem ZeE{a a':Addr} (h:AddrR B a a'):SR G QE B (byteOf a) (byteOf a'):=by cases h with|mk b b' o s hb=>unfold byteOf;cases s with|some s=>exact Zx rfl|none=>
   refine Za Zbv fun B1 p p' h1 hp=>?_;obtain⟨rfl,rfl⟩:=hp;refine Za (ZgN (AddrR.mk b b' o none (h1 _ _ hb))) fun B2 _ _ h2 _=>?_;refine ZE (ZcN (h2 _ _ (h1 _ _ hb))) fun B3 s h3=>?_;dsimp only;split
   ·split;·exact Zx rfl
    ·split;·exact Zx rfl
     ·exact SR.halt _ (.stuck _) _ trivial
   ·exact SR.halt _ (.stuck _) _ trivial
theorem Zm1(t:TypeId):SR G QE B (typeStr t) (typeStr t):=by
 unfold typeStr;refine Za (Zbw t) fun B1 i i' h1 hi=>?_;obtain⟨rfl,_⟩:=hi;dsimp only;split;·exact SR.halt _ (.unsupported _) _ trivial
 ·exact Zx rfl
theorem Zm2(t:TypeId) {a a' b b':Addr} (ha:AddrR B a a')(hb:AddrR B b b'):SR G QE B (do
   let (a,b):=((<-behindNumber a).1,(<-behindNumber b).1);if a.block==b.block&&a.block<(<-program).globals.size then return (<-byteOf a)==(<-byteOf b)
   let .named "sync.copyChecker" _:=(<-typeInfo t).desc|unsupported .addressObserved
   if a==b then Pure.pure true else unsupported .addressObserved) (do
   let (a,b):=((<-behindNumber a').1,(<-behindNumber b').1);if a.block==b.block&&a.block<(<-program).globals.size then return (<-byteOf a)==(<-byteOf b)
   let .named "sync.copyChecker" _:=(<-typeInfo t).desc|unsupported .addressObserved
   if a==b then Pure.pure true else unsupported .addressObserved):=by
 refine .bij _ _ _ fun hB=>?_;refine Za (Zbi ha) fun B2 x y h2 hx=>?_;refine Za (Zbi (hb.mono h2)) fun B3 z u h3 hz=>?_;dsimp only;refine Za Zbv fun B4 p p' h4 hp=>?_;obtain⟨rfl,rfl⟩:=hp;replace ha:=(hx.1.mono h3).mono h4;replace hb:=hz.1.mono h4;refine .bij _ _ _ fun hB=>?_;have e1:(x.1.block==z.1.block&&decide (x.1.block<G.P.globals.size))=(y.1.block==u.1.block&&decide (y.1.block<G.P.globals.size)):=by generalize x.1=a at ha |-;generalize y.1=a' at ha |-;generalize z.1=b at hb |-;generalize u.1=b' at hb |-;cases ha with|mk x x' o s hx=>cases hb with|mk y y' p r hy=>have l1:=hB.low _ _ hx;have l2:(x=y↔x'=y'):=⟨fun e=>hB.fn _ _ _ hx (e▸hy),fun e=>hB.inj _ _ _ hx (e▸hy)⟩;rw[ZuP];simp only[ZuM,beq_iff_eq,decide_eq_true_eq,l1,l2]
 rw[e1,ZmZ hB ha hb];split
 ·refine ZE (ZeE ha) fun B5 n h5=>?_;refine ZE (ZeE (hb.mono h5)) fun B6 m h6=>?_;exact Zx rfl
 ·refine Za (Zbw t) fun B5 i i' h5 hi=>?_;obtain⟨rfl,_⟩:=hi;split
  ·split;·exact Zx rfl
   ·exact SR.halt _ (.unsupported .addressObserved) _ trivial
  ·exact SR.halt _ (.unsupported .addressObserved) _ trivial
theorem Zm3{n:Nat} {t:TypeId} {u:TypeDesc} (hu:G.P.underlying t=some u)(hs:G.sh=false∨G.flat n t=true)(hn:∀m,(match u with|.int _|.bool|.string|.slice _=>true|.struct fs=>fs.all fun f=>G.flat m f.type|.array _ e=>G.flat m e|_=>false)=false):G.sh=false:=by
 rcases hs with h|h;·exact h
 ·cases n with|zero=>cases h|succ n=>have:=hn n;unfold Env.flat at h;rw[hu]at h;cases u<;>simp_all
theorem Zfy:∀(d n:Nat) (t:TypeId) {x x' y y':Value} {B:Blk},(G.sh=false∨G.flat n t=true)->VR G B x x'->VR G B y y'->SR G QE B (Op.equalIn d t x y) (Op.equalIn d t x' y')
 |0,_,_,_,_,_,_,_,_,_,_=>SR.halt _ (.unsupported _) _ trivial|d+1,n,t,x,x',y,y',B,hs,hx,hy=>by
  unfold Op.equalIn;refine Za (Z4 t) fun B1 u u' h1 hu=>?_;obtain⟨rfl,hu⟩:=hu;have hsP:=Zm3 hu hs;replace hx:=hx.mono h1;replace hy:=hy.mono h1;cases hx<;>cases hy<;>cases u<;>try first|exact SR.halt _ (.stuck _) _ trivial|exact SR.halt _ (.unsupported _) _ trivial|exact Zx rfl
  case int.int.int=>
   dsimp only;split;·exact Zx rfl
   ·exact SR.halt _ (.stuck _) _ trivial
  case int.ptr.int k n a a' ha k'=>rcases n with(_|_)|_<;>first|exact Zx rfl|exact SR.halt _ (.unsupported .addressObserved) _ trivial
  case ptr.int.int a a' ha k n k'=>rcases n with(_|_)|_<;>first|exact Zx rfl|exact SR.halt _ (.unsupported .addressObserved) _ trivial
  case ptr.ptr.int a a' ha b b' hb k=>exact Zm2 t ha hb
  case ptr.ptr.pointer a a' ha b b' hb elem=>
   have hs:=hsP fun _=>rfl;refine ZE (ZaN _) fun B2 n h2=>?_;split;·exact ZiP hs (ha.mono h2) (hb.mono h2)
   ·refine .bij _ _ _ fun hB=>?_;obtain rfl:=(ha.mono h2).eq (hB.idn hs);obtain rfl:=(hb.mono h2).eq (hB.idn hs);split;·exact Zx rfl
    ·exact ZE (Zdl _) fun B3 n h3=>Zx rfl
  case ptr.ptr.unsafePointer a a' ha b b' hb=>exact ZiP (hsP fun _=>rfl) ha hb
  case iface.iface.interface tx v v' hv ty u u' hu' ms=>
   have hs:=hsP fun _=>rfl;dsimp only;split;·exact Zx rfl
   ·refine Za (Zbw tx) fun B2 i i' h2 hi=>?_;obtain⟨rfl,_⟩:=hi;split
    ·refine Za Zbv fun B3 p p' h3 hp=>?_;obtain⟨rfl,rfl⟩:=hp;refine Za Zbv fun B3' p p' h3' hp=>?_;obtain⟨rfl,rfl⟩:=hp;split;·exact SR.halt _ (.unsupported _) _ trivial
     ·exact ZE (Zm1 tx) fun B4 s h4=>ZbY trivial
    ·exact Zfy d 0 tx (.inl hs) (hv.mono h2) (hu'.mono h2)
  case agg.agg.struct xs xs' hx1 hx2 ys ys' hy1 hy2 fields=>
   have hX:AR G B1 xs xs':=⟨hx1,hx2⟩;have hY:AR G B1 ys ys':=⟨hy1,hy2⟩;dsimp only;refine Za Zbv fun B4 p p' h4 hp=>?_;obtain⟨rfl,rfl⟩:=hp;split;·exact SR.halt _ (.unsupported _) _ trivial
   ·have hsF:∀f∈fields,G.sh=false∨G.flat (n-1) f.type=true:=by
     intro f hf;rcases hs with h|h;·exact .inl h
     ·cases n with|zero=>cases h|succ n=>unfold Env.flat at h;rw[hu]at h;exact .inr (Zub.1 h f hf)
    refine ZE (ZmX _ _ _ _ fun B5 f s hf h5=>?_) fun B5 r h5=>?_
    ·split
     ·refine Za (Zcg _ _ ((hX.mono h4).mono h5)) fun B6 v v' h6 hv=>?_;refine Za (Zcg _ _ (((hY.mono h4).mono h5).mono h6)) fun B7 u u' h7 hu=>?_;refine ZE (Zfy d _ _ (hsF f hf) (hv.mono h7) hu) fun B8 b h8=>?_;split<;>exact Zx rfl
     ·exact Zx rfl
    ·split<;>exact Zx rfl
  case agg.agg.array xs xs' hx1 hx2 ys ys' hy1 hy2 len elem=>
   have hX:AR G B1 xs xs':=⟨hx1,hx2⟩;have hY:AR G B1 ys ys':=⟨hy1,hy2⟩;dsimp only;have hsF:G.sh=false∨G.flat (n-1) elem=true:=by
    rcases hs with h|h;·exact .inl h
    ·cases n with|zero=>cases h|succ n=>unfold Env.flat at h;rw[hu]at h;exact .inr h
   refine ZE (ZaN _) fun B4 n h4=>?_;refine ZE (ZiM _ _ _ _ fun B5 f s h5=>?_) fun B5 r h5=>?_
   ·refine Za (Zcg _ _ ((hX.mono h4).mono h5)) fun B6 v v' h6 hv=>?_;refine Za (Zcg _ _ (((hY.mono h4).mono h5).mono h6)) fun B7 u u' h7 hu=>?_;refine ZE (Zfy d _ _ hsF (hv.mono h7) hu) fun B8 b h8=>?_;split<;>exact Zx rfl
   ·split<;>exact Zx rfl
theorem ZiR{d:Nat} {t:TypeId} {x y:Value} (h:bare x=true∨bare y=true):Op.eqGuardIn (d+1) t x y=(underlying t>>=fun _=>Pure.pure false):=by
 unfold Op.eqGuardIn;congr;funext u;rcases h with h|h;·cases x<;>first|(cases h;done)|(cases u<;>rfl)
 ·cases y<;>first|(cases h;done)|(cases u<;>cases x<;>rfl)
theorem Zfz:∀(d:Nat)(t:TypeId) {x x' y y':Value} {B:Blk},VR G B x x'->VR G B y y'->SR G QE B (Op.eqGuardIn d t x y) (Op.eqGuardIn d t x' y')
 |0,_,_,_,_,_,_,_,_=>SR.halt _ (.unsupported _) _ trivial|d+1,t,x,x',y,y',B,hx,hy=>by
  by_cases hb:bare x=true∨bare y=true;·rw[ZiR hb,ZiR (by rw[<-hx.bare,<-hy.bare];exact hb)];exact Za (Z4 t) fun B1 u u' h1 hu=>Zx rfl
  unfold Op.eqGuardIn;refine Za (Z4 t) fun B1 u u' h1 hu=>?_;obtain⟨rfl,hu⟩:=hu;clear hu;replace hx:=hx.mono h1;replace hy:=hy.mono h1;cases hx<;>cases hy<;>first|(exfalso;exact hb (.inl rfl))|(exfalso;exact hb (.inr rfl))|(cases u<;>try exact Zx rfl)
  case agg.agg.struct xs xs' hx1 hx2 ys ys' hy1 hy2 fields=>
   have hX:AR G B1 xs xs':=⟨hx1,hx2⟩;have hY:AR G B1 ys ys':=⟨hy1,hy2⟩;dsimp only;refine ZE (ZmW _ _ _ _ fun B5 f s h5=>?_) fun B5 r h5=>?_
   ·split
    ·refine Za (Zcg _ _ (hX.mono h5)) fun B6 v v' h6 hv=>?_;refine Za (Zcg _ _ ((hY.mono h5).mono h6)) fun B7 u u' h7 hu=>?_;refine ZE (Zfz d _ (hv.mono h7) hu) fun B8 b h8=>?_;split<;>exact Zx rfl
    ·exact Zx rfl
   ·split<;>exact Zx rfl
  case agg.agg.array xs xs' hx1 hx2 ys ys' hy1 hy2 len elem=>
   have hX:AR G B1 xs xs':=⟨hx1,hx2⟩;have hY:AR G B1 ys ys':=⟨hy1,hy2⟩;dsimp only;refine ZE (ZaN _) fun B4 n h4=>?_;refine ZE (ZiM _ _ _ _ fun B5 f s h5=>?_) fun B5 r h5=>?_
   ·refine Za (Zcg _ _ ((hX.mono h4).mono h5)) fun B6 v v' h6 hv=>?_;refine Za (Zcg _ _ (((hY.mono h4).mono h5).mono h6)) fun B7 u u' h7 hu=>?_;refine ZE (Zfz d _ (hv.mono h7) hu) fun B8 b h8=>?_;split<;>exact Zx rfl
   ·split<;>exact Zx rfl
theorem ZaB{c:Prop} [Decidable c] {a b:Sem α} {a' b':Sem β} (h1:c->SR G Q B a a') (h2:¬c->SR G Q B b b'):SR G Q B (if c then a else b) (if c then a' else b'):=by
 split;·exact h1 ‹_›
 ·exact h2 ‹_›
theorem ZiS{op:BinOp} {t:TypeId} {o o':Operand} {x y:Value} (h:bare x=true∨bare y=true):eqGuard op t o o' x y=Pure.pure ():=by
 unfold eqGuard;rcases h with h|h;·cases x<;>first|(cases h;done)|exact ite_self _
 ·cases y<;>first|(cases h;done)|(cases x<;>exact ite_self _)
theorem Zm4(op:BinOp) (t:TypeId) (o o':Operand) {x x' y y':Value} (hx:VR G B x x') (hy:VR G B y y'):SR G QU B (eqGuard op t o o' x y) (eqGuard op t o o' x' y'):=by
 by_cases hb:bare x=true∨bare y=true;·rw[ZiS hb,ZiS (by rw[<-hx.bare,<-hy.bare];exact hb)];exact Zx trivial
 unfold eqGuard;refine ZaB (fun _=>Zx trivial) fun _=>?_;cases hx<;>cases hy<;>first|(exfalso;exact hb (.inl rfl))|(exfalso;exact hb (.inr rfl))|try exact Zx (Q:=QU) trivial
 ·refine ZaB (fun _=>Zx trivial) fun _=>?_;refine ZE (Zfz _ _ .nilIface .nilIface) fun B1 b h1=>?_;exact ZaB (fun _=>SR.halt _ (.unsupported _) _ trivial) fun _=>Zx trivial
 ·rename_i xs xs' hx1 hx2 ys ys' hy1 hy2;refine Za Zbv fun B1 p p' h1 hp=>?_;obtain⟨rfl,rfl⟩:=hp;refine Za Zbv fun B2 p p' h2 hp=>?_;obtain⟨rfl,rfl⟩:=hp;refine ZaB (fun _=>Zx trivial) fun _=>?_;refine ZE (Zfz _ _ (VR.mono (Blk.le_trans h1 h2) (.agg _ _ hx1 hx2)) (VR.mono (Blk.le_trans h1 h2) (.agg _ _ hy1 hy2))) fun B1 b h1=>?_;exact ZaB (fun _=>SR.halt _ (.unsupported _) _ trivial) fun _=>Zx trivial
theorem ZiT{ts:Array TypeId} {t:TypeId} {x x' y y':Value} (hx:VR G B x x') (hy:VR G B y y'):SR G (fun B v v'=>VR G B v v'/\∃p,v=.pointer p) B (Builtin.unsafeAdd_ ts t #[x,y]) (Builtin.unsafeAdd_ ts t #[x',y']):=by
 unfold Builtin.unsafeAdd_;cases hx<;>try exact SR.halt _ (.stuck _) _ trivial
 ·refine ZE (ZdV hy) fun B1 n h1=>?_;refine ZaB (fun _=>SR.halt _ (.unsupported _) _ trivial) fun _=>ZaB (fun _=>SR.halt _ (.unsupported _) _ trivial) fun _=>SR.halt _ (.unsupported _) _ trivial
 ·rename_i a a' ha;refine ZE (ZdV hy) fun B1 n h1=>?_;refine ZaB (fun _=>?_) fun _=>ZaB (fun _=>SR.halt _ (.unsupported _) _ trivial) fun _=>?_;·cases ha with|mk b b' o s hb=>refine Za (ZiN (h1 _ _ hb)) fun B2 x y h2 hx=>?_;obtain⟨rfl,rfl⟩:=hx;exact Zx ⟨.ptr _ _ (.mk _ _ _ _ (h2 _ _ (h1 _ _ hb))),_,rfl⟩
  ·cases ha with|mk b b' o s hb=>
    refine ZE (ZcN (h1 _ _ hb)) fun B2 s2 h2=>?_;split
    ·refine Za Zbv fun B3 p p' h3 hp=>?_;obtain⟨rfl,rfl⟩:=hp;dsimp only;split;·exact Zx ⟨.ptr _ _ (.mk _ _ _ _ (h3 _ _ (h2 _ _ (h1 _ _ hb)))),_,rfl⟩
     ·exact SR.halt _ (.unsupported _) _ trivial
    ·exact SR.halt _ (.unsupported _) _ trivial
theorem ZgO{ts:Array TypeId} {t:TypeId} {x x' y y':Value} (hx:VR G B x x') (hy:VR G B y y'):SR G (QV G) B (Builtin.unsafeAdd_ ts t #[x,y]) (Builtin.unsafeAdd_ ts t #[x',y']):=SR.mono (ZiT hx hy) fun _ _ _ _ h=>h.1
theorem ZiU(t:TypeId) {x x' y y':Value} (hx:VR G B x x') (hy:VR G B y y'):SR G (QV G) B (movedPointer t x y) (movedPointer t x' y'):=by
 unfold movedPointer;have h0:=hx;cases hx<;>first|exact ZgO h0 hy|exact SR.halt _ (.stuck _) _ trivial|skip
 rename_i a a' ha;cases ha with|mk b b' o s hb=>
  refine Za (ZiQ hb) fun B1 x y h1 hx=>?_;have e:x.isSome=y.isSome:=by cases x<;>cases y<;>first|exact hx.elim|rfl
  rw[e];refine ZaB (fun _=>SR.halt _ (.unsupported _) _ trivial) fun _=>?_;exact ZgO (h0.mono h1) (hy.mono h1)
theorem Zm5{a a':Addr} (h:AddrR B a a') (lost:Bool):SR G (QV G) B (asNumber a lost) (asNumber a' lost):=by unfold asNumber;refine Za (ZdS (.number a a' lost h)) fun B1 r r' h1 hr=>?_;exact Zx (.ptr _ _ (.mk _ _ _ _ hr))
theorem ZdY(t:TypeId) {x x' y y':Value} (hx:VR G B x x') (hy:VR G B y y'):SR G (QV G) B (movedNumber t x y) (movedNumber t x' y'):=by
 unfold movedNumber;refine Za (Z4 t) fun B1 d d' h1 hd=>?_;obtain⟨rfl,_⟩:=hd;dsimp only;refine ZaB (fun _=>SR.halt _ (.unsupported _) _ trivial) fun _=>?_;replace hx:=hx.mono h1;replace hy:=hy.mono h1;have h0:=hx;cases hx<;>first|exact ZgO h0 hy|exact SR.halt _ (.stuck _) _ trivial|skip
 rename_i a a' ha;refine Za (Zbi ha) fun B2 n n' h2 hn=>?_;obtain⟨n1,n2⟩:=n;obtain⟨m1,m2⟩:=n';obtain⟨hn1,hn2⟩:=hn;dsimp only at hn1 hn2 |-;subst hn2;refine Za (ZiT (.ptr _ _ hn1) (hy.mono h2)) fun B3 v v' h3 hv=>?_;obtain⟨hv,p,rfl⟩:=hv;have hv0:=hv;cases hv<;>try exact Zx hv0
 exact Zm5 ‹_› _
theorem ZiV{a a' b b':Addr} (ha:AddrR B a a') (hb:AddrR B b b'):SR G QE B (Op.twoPlaces a b) (Op.twoPlaces a' b'):=by
 unfold Op.twoPlaces;refine Za Zbv fun B1 p p' h1 hp=>?_;obtain⟨rfl,rfl⟩:=hp;refine .bij _ _ _ fun hB=>?_;replace ha:=ha.mono h1;replace hb:=hb.mono h1;have e1 : (a.block != b.block || decide (a.block ≥ G.P.globals.size)) = (a'.block != b'.block || decide (a'.block ≥ G.P.globals.size)) := by cases ha with|mk x x' o s hx=>cases hb with|mk y y' p r hy=>have l1:=hB.low _ _ hx;have l2:(x=y↔x'=y'):=⟨fun e=>hB.fn _ _ _ hx (e▸hy),fun e=>hB.inj _ _ _ hx (e▸hy)⟩;rw[ZuP];simp only[ZuV,bne_iff_ne,decide_eq_true_eq,ne_eq,l2,ge_iff_le,<-Zw2,l1]
 rw[e1];refine ZaB (fun _=>SR.halt _ (.unsupported .addressObserved) _ trivial) fun _=>?_;refine ZE (ZeE ha) fun B2 n h2=>?_;refine ZE (ZeE (hb.mono h2)) fun B3 m h3=>?_;exact Zx rfl
theorem Zm6(k:IntKind) {a a' b b':Addr} (ha:AddrR B a a') (hb:AddrR B b b'):SR G (QV G) B (Op.addrSub k a b) (Op.addrSub k a' b'):=by unfold Op.addrSub;refine ZE (ZiV ha hb) fun B1 n h1=>?_;exact Zx (.int _ _)
theorem ZfA(op:BinOp) {a a' b b':Addr} (ha:AddrR B a a') (hb:AddrR B b b'):SR G (QV G) B (Op.addrCmp op a b) (Op.addrCmp op a' b'):=by unfold Op.addrCmp;refine ZE (ZiV ha hb) fun B1 n h1=>?_;cases op<;>first|exact Zx (.bool _)|exact SR.halt _ (.unsupported .addressObserved) _ trivial
theorem ZgP(k:IntKind) {a a':Addr} (ha:AddrR B a a') (n:Int):SR G (QV G) B (Op.addrMod k a n) (Op.addrMod k a' n):=by unfold Op.addrMod;have h0:=ha;cases ha with|mk b b' o s hb=>
  refine ZE (ZcN hb) fun B1 sh h1=>?_;split
  ·refine Za (Zbw _) fun B2 i i' h2 hi=>?_;obtain⟨rfl,_⟩:=hi;dsimp only;refine ZaB (fun _=>SR.halt _ (.unsupported _) _ trivial) fun _=>?_;exact ZE (ZeE ((h0.mono h1).mono h2)) fun B3 m h3=>Zx (.int _ _)
  ·exact SR.halt _ (.unsupported _) _ trivial
theorem ZiW(P:Program)(t:TypeId)(l:World):(underlying t).run P l=match P.underlying t with|some d=>.ok d l|none=>.halt (.stuck "no such type") l:=by unfold underlying;simp only[Sem.run_bind,program,Sem.run,Result.andThen];cases P.underlying t<;>rfl
theorem Zm7(P:Program)(n:Nat)(t:TypeId) {x y:Value} (h:(∃xs,x=.tuple xs)∨∃ys,y=.tuple ys)(l:World):∃z,(Op.equalIn (n+1) t x y).run P l=.halt z l/\Halt.quiet z:=by unfold Op.equalIn;rw[Sem.run_bind,ZiW];cases hd:P.underlying t with
 |none=>exact⟨_,rfl,trivial⟩|some d=>
  simp only[Result.andThen];rcases h with⟨xs,rfl⟩|⟨ys,rfl⟩;·cases d<;>cases y<;>first|exact⟨_,rfl,trivial⟩|(rename_i a;cases a<;>exact⟨_,rfl,trivial⟩)|(rename_i a b c;cases a<;>exact⟨_,rfl,trivial⟩)
  ·cases d<;>cases x<;>first|exact⟨_,rfl,trivial⟩|(rename_i a;cases a<;>exact⟨_,rfl,trivial⟩)|(rename_i a b c;cases a<;>exact⟨_,rfl,trivial⟩)
theorem ZiX(P:Program)(t:TypeId) {x y:Value} (h:(∃xs,x=.tuple xs)∨∃ys,y=.tuple ys)(l:World):∃z,(Op.equal t x y).run P l=.halt z l/\Halt.quiet z:=Zm7 P 9999 t h l
theorem Zm8(P:Program)(op:BinOp)(t:TypeId) {x y:Value} (h:(∃xs,x=.tuple xs)∨∃ys,y=.tuple ys)(l:World):∃z,(binOp op t x y).run P l=.halt z l/\Halt.quiet z:=by
 by_cases h1:op=.eql
 ·subst h1;have e:binOp .eql t x y=(do Pure.pure (.bool (<-Op.equal t x y))):=by
   unfold binOp;rcases h with⟨xs,rfl⟩|⟨ys,rfl⟩;·cases y<;>rfl
   ·cases x<;>rfl
  obtain⟨z,h2,h3⟩:=ZiX P t h l;exact⟨z,by rw[e,Sem.run_bind,h2];rfl,h3⟩
 by_cases h2:op=.neq
 ·subst h2;have e:binOp .neq t x y=(do Pure.pure (.bool (!(<-Op.equal t x y)))):=by
   unfold binOp;rcases h with⟨xs,rfl⟩|⟨ys,rfl⟩;·cases y<;>rfl
   ·cases x<;>rfl
  obtain⟨z,h2,h3⟩:=ZiX P t h l;exact⟨z,by rw[e,Sem.run_bind,h2];rfl,h3⟩
 unfold binOp;rcases h with⟨xs,rfl⟩|⟨ys,rfl⟩;·cases op<;>first|exact absurd rfl h1|exact absurd rfl h2|(cases y<;>exact⟨_,rfl,trivial⟩)
 ·cases op<;>first|exact absurd rfl h1|exact absurd rfl h2|(cases x<;>first|exact⟨_,rfl,trivial⟩|(rename_i a;cases a<;>exact⟨_,rfl,trivial⟩))
theorem Zm9(op:BinOp) (t:TypeId) (ht:(op=.eql∨op=.neq)->G.sh=false∨G.flat 8 t=true) {x x' y y':Value} (hx:VR G B x x') (hy:VR G B y y'):SR G (QV G) B (binOp op t x y) (binOp op t x' y'):=by
  have hE:(op=.eql∨op=.neq)->SR G QE B (Op.equal t x y) (Op.equal t x' y'):=fun h=>by exact Zfy _ 8 _ (ht h) hx hy
  have hEq:SR G QE B (Op.equal t x y) (Op.equal t x' y')->SR G (QV G) B (do Pure.pure (.bool (<-Op.equal t x y))) (do Pure.pure (.bool (<-Op.equal t x' y'))):=fun h=>ZE h fun B1 b h1=>Zx (.bool _);have hNe:SR G QE B (Op.equal t x y) (Op.equal t x' y')->SR G (QV G) B (do Pure.pure (.bool (!(<-Op.equal t x y)))) (do Pure.pure (.bool (!(<-Op.equal t x' y')))):=fun h=>ZE h fun B1 b h1=>Zx (.bool _);by_cases hj:(∃xs,x=.tuple xs)∨∃ys,y=.tuple ys;· refine .dead _ _ _ fun l _=>?_;obtain⟨z,h1,h2⟩:=Zm8 G.P op t hj l;exact⟨z,l,h1,h2,fun _ _=>rfl⟩
  unfold binOp;cases hx<;>cases hy<;>first|(exfalso;exact hj (.inl ⟨_,rfl⟩))|(exfalso;exact hj (.inr ⟨_,rfl⟩))|skip
  case int.int k n k' m=>cases op<;>dsimp only<;>first
      |exact Zdp _ k n m _ (.inr (.inr (.inr (.inr ⟨_,rfl⟩))))| (refine ZaB (fun _ => SR.halt _ (.stuck _) _ trivial) fun _ => ?_;first
         |exact Zdp _ k n m _ (.inl rfl)|exact Zdp _ k n m _ (.inr (.inl rfl))|exact Zdp _ k n m _ (.inr (.inr (.inl rfl)))|exact Zdp _ k n m _ (.inr (.inr (.inr (.inl rfl)))))
  case string.string a b=>cases op<;>exact ZgL _ _ _
  all_goals cases op<;>first
      |exact SR.halt _ (.stuck _) _ trivial|exact SR.halt _ (.unsupported .addressObserved) _ trivial|exact hEq (hE (.inl rfl))|exact hNe (hE (.inr rfl))|skip
  case int.nilPtr.add k n=>exact ZdY t .nilPtr (.int _ _)
  case int.ptr.add k n a a' ha=>exact ZdY t (.ptr _ _ ha) (.int _ _)
  case int.ptr.and k n a a' ha=>exact Za (Zbi ha) fun B1 x y h1 hx=>ZgP _ hx.1 _
  case nilPtr.int.add k n=>refine Za (Z4 t) fun B1 d d' h1 hd=>?_;obtain⟨rfl,_⟩:=hd;exact ZaB (fun _=>ZiU t .nilPtr (.int _ _)) fun _=>ZdY t .nilPtr (.int _ _)
  case nilPtr.int.sub k n=>exact ZdY t .nilPtr (.int _ _)
  case ptr.int.add a a' ha k n=>refine Za (Z4 t) fun B1 d d' h1 hd=>?_;obtain⟨rfl,_⟩:=hd;exact ZaB (fun _=>ZiU t (.ptr _ _ (ha.mono h1)) (.int _ _)) fun _=>ZdY t (.ptr _ _ (ha.mono h1)) (.int _ _)
  case ptr.int.sub a a' ha k n=>exact ZdY t (.ptr _ _ ha) (.int _ _)
  case ptr.int.rem a a' ha k n=>exact Za (Zbi ha) fun B1 x y h1 hx=>ZgP _ hx.1 _
  case ptr.int.and a a' ha k n=>exact Za (Zbi ha) fun B1 x y h1 hx=>ZgP _ hx.1 _
  case ptr.ptr.sub a a' ha b b' hb=>exact Za (Zbi ha) fun B1 x y h1 hx=>Za (Zbi (hb.mono h1)) fun B2 z u h2 hz=>Zm6 _ (hx.1.mono h2) hz.1
  case ptr.ptr.lss a a' ha b b' hb=>exact Za (Zbi ha) fun B1 x y h1 hx=>Za (Zbi (hb.mono h1)) fun B2 z u h2 hz=>ZfA _ (hx.1.mono h2) hz.1
  case ptr.ptr.leq a a' ha b b' hb=>exact Za (Zbi ha) fun B1 x y h1 hx=>Za (Zbi (hb.mono h1)) fun B2 z u h2 hz=>ZfA _ (hx.1.mono h2) hz.1
  case ptr.ptr.gtr a a' ha b b' hb=>exact Za (Zbi ha) fun B1 x y h1 hx=>Za (Zbi (hb.mono h1)) fun B2 z u h2 hz=>ZfA _ (hx.1.mono h2) hz.1
  case ptr.ptr.geq a a' ha b b' hb=>exact Za (Zbi ha) fun B1 x y h1 hx=>Za (Zbi (hb.mono h1)) fun B2 z u h2 hz=>ZfA _ (hx.1.mono h2) hz.1
end
section
variable {G:Env} {α β:Type} {Q:Blk->α->β->Prop} {B:Blk}
theorem Zna{x x' y y':Value} (hx:VR G B x x') (hy:VR G B y y'):SR G (QV G) B (Builtin.max2 x y) (Builtin.max2 x' y'):=by cases hx<;>cases hy<;>first|exact SR.halt _ (.stuck _) _ trivial|exact SR.halt _ (.unsupported .addressObserved) _ trivial|exact Zx (.int _ _)|exact Za (ZgL _ _ _) fun B1 v v' h1 hv=>Za (Q:=QE) (ZgF hv) fun B2 b b' h2 hb=>by cases hb;exact Zx (.string _)
theorem Znb{x x' y y':Value} (hx:VR G B x x') (hy:VR G B y y'):SR G (QV G) B (Builtin.min2 x y) (Builtin.min2 x' y'):=by cases hx<;>cases hy<;>first|exact SR.halt _ (.stuck _) _ trivial|exact SR.halt _ (.unsupported .addressObserved) _ trivial|exact Zx (.int _ _)|exact Za (ZgL _ _ _) fun B1 v v' h1 hv=>Za (Q:=QE) (ZgF hv) fun B2 b b' h2 hb=>by cases hb;exact Zx (.string _)
theorem ZgQ(f:Value->Value->Sem Value) (hf:∀(B:Blk) (x x' y y':Value),VR G B x x'->VR G B y y'->SR G (QV G) B (f x y) (f x' y')):∀{vs vs':List Value} {x x':Value} {B:Blk},LR G B vs vs'->VR G B x x'->SR G (QV G) B (vs.foldlM f x) (vs'.foldlM f x')|_,_,x,x',B,.nil,h=>by simp only[List.foldlM_nil];exact Zx h|_,_,x,x',B,.cons v v' vs vs' hv hs,h=>by simp only[List.foldlM_cons];exact Za (hf B _ _ _ _ h hv) fun B1 y y' h1 hy=>ZgQ f hf (hs.mono h1) hy
theorem Znc{ts:Array TypeId} {t:TypeId} {xs xs':Array Value} (h:AR G B xs xs'):SR G (QV G) B (Builtin.max_ ts t xs) (Builtin.max_ ts t xs'):=by unfold Builtin.max_;have hl:=h.list;generalize xs.toList=l at hl |-;generalize xs'.toList=l' at hl |-;cases hl with|nil=>exact SR.halt _ (.stuck _) _ trivial|cons v v' vs vs' hv hs=>exact ZgQ _ (fun B _ _ _ _ hx hy=>Zna hx hy) hs hv
theorem Znd{ts:Array TypeId} {t:TypeId} {xs xs':Array Value} (h:AR G B xs xs'):SR G (QV G) B (Builtin.min_ ts t xs) (Builtin.min_ ts t xs'):=by unfold Builtin.min_;have hl:=h.list;generalize xs.toList=l at hl |-;generalize xs'.toList=l' at hl |-;cases hl with|nil=>exact SR.halt _ (.stuck _) _ trivial|cons v v' vs vs' hv hs=>exact ZgQ _ (fun B _ _ _ _ hx hy=>Znb hx hy) hs hv
theorem Zne{ts:Array TypeId} {t:TypeId} {xs xs':Array Value} (h:AR G B xs xs'):SR G (QV G) B (Builtin.copy_ ts t xs) (Builtin.copy_ ts t xs'):=by unfold Builtin.copy_;have a0:=h.arg 0;have a1:=h.arg 1;generalize xs[0]?=x0 at a0 |-;generalize xs'[0]?=x0' at a0 |-;generalize xs[1]?=x1 at a1 |-;generalize xs'[1]?=x1' at a1 |-;cases hs:ts[0]? with|none=>exact SR.halt _ (.stuck _) _ trivial|some sT=>
 cases x0<;>cases x0'<;>(try exact a0.elim);·exact SR.halt _ (.stuck _) _ trivial
 cases x1<;>cases x1'<;>(try exact a1.elim);·exact SR.halt _ (.stuck _) _ trivial
 rename_i s s' x x';change VR G B s s' at a0;change VR G B x x' at a1;refine Za (Z4 sT) fun B1 d d' h1 hd=>?_;obtain⟨rfl,hd⟩:=hd;cases d<;>try exact SR.halt _ (.stuck _) _ trivial
 replace a0:=a0.mono h1;replace a1:=a1.mono h1;rcases a0.slice_or with hno|⟨base,base',sLen,sCap,rfl,rfl,hb⟩;·cases a0<;>first|exact absurd rfl (hno _ _ _)|exact SR.halt _ (.stuck _) _ trivial
 refine Za (ZgJ a1) fun B2 n n' h2 hnn=>?_;obtain⟨rfl,hnl⟩:=hnn;refine ZE (ZaN _) fun B3 m h3=>?_;rcases hb with hb|⟨hz0,rfl,rfl,rfl⟩;case inr=>have e0:Nat.min n 0=0:=Nat.min_zero n;rw[e0];refine Za (ZgK ((a1.mono h2).mono h3) _) fun B4 c c' h4 hc=>?_;obtain⟨rfl,rfl⟩:=hc;cases base with
  |none=>exact Zx (ZbZ _)|some a=>exact Zx (ZbZ _)
 refine Za (Zdo ((a1.mono h2).mono h3) _ _ fun b l c h=>(by rw[<-hnl b l c h];exact Nat.min_le_left _ _)) fun B4 c c' h4 hc=>?_;have hb:=OA.mono (Blk.le_trans h2 (Blk.le_trans h3 h4)) hb;cases base<;>cases base'<;>try exact hb.elim
 ·exact Zx (ZbZ _)
 ·exact Za (ZeB 0 hb hc.list) fun B5 _ _ h5 _=>Zx (ZbZ _)
theorem ZiY:∀(n:Nat)(acc:ByteArray) {a a':Addr} {B:Blk},AddrR B a a'->SR G QE B (loadBytes a acc n) (loadBytes a' acc n)
 |0,acc,a,a',B,h=>Zx rfl|n+1,acc,a,a',B,h=>by
  unfold loadBytes;refine Za (Zez h) fun B1 v v' h1 hv=>?_;cases hv<;>try exact SR.halt _ (.stuck _) _ trivial
  rename_i k m;cases k<;>first|exact SR.halt _ (.stuck _) _ trivial|exact ZiY n _ ((h.mono h1).add 1)
theorem Znf{a a':Addr} (h:AddrR B a a') (u:TypeId) (n:Nat):SR G QE B (variablesAt a u n) (variablesAt a' u n):=by cases h with|mk b b' o s hb=>unfold variablesAt;refine Za Zbv fun B1 p p' h1 hp=>?_;obtain⟨rfl,rfl⟩:=hp;refine ZE (ZcN (h1 _ _ hb)) fun B2 s h2=>?_;split<;>exact Zx rfl
theorem Zng(hs:G.sh=false) {ts:Array TypeId} {t:TypeId} {xs xs':Array Value} (h:AR G B xs xs'):SR G (QV G) B (Builtin.unsafeString_ ts t xs) (Builtin.unsafeString_ ts t xs'):=by obtain⟨l⟩:=xs;obtain⟨l'⟩:=xs';have hsz:l.length=l'.length:=h.size;unfold Builtin.unsafeString_;match l,l',hsz with
 |[],_,_=>exact SR.halt _ (.stuck _) _ trivial|[x],_,_=>cases x<;>exact SR.halt _ (.stuck _) _ trivial|x::_::_::_,_,_=>cases x<;>exact SR.halt _ (.stuck _) _ trivial|[a,b],[a',b'],_=>
  have ha:VR G B a a':=h.at_ 0 _ _ rfl rfl;have hb:VR G B b b':=h.at_ 1 _ _ rfl rfl;clear h;have main:∀{p p':Option Addr},OA B p p'->SR G (QV G) B (do
    let n<-asInt b
    let some pt:=ts[0]?|stuck "unsafe.String: no argument types"
    if n<0 then runtimePanic (.error "unsafe.String: len out of range")
    if n>IntKind.i64.max then unsupported (.unsafePointer "String: a length above the largest int")
    match p with
    |none=>if n=0 then Pure.pure (.string .empty);else runtimePanic (.error "unsafe.String: ptr is nil and len is not zero");|some a=>if n=0 then Pure.pure (.string .empty);else if<-variablesAt a (<-elemOf pt) n.toNat then do let s<-loadBytes a .empty n.toNat;freeze a n.toNat;Pure.pure (.string s);else unsupported (.unsafePointer "String: not so many bytes at ptr")) (do
    let n<-asInt b'
    let some pt:=ts[0]?|stuck "unsafe.String: no argument types"
    if n<0 then runtimePanic (.error "unsafe.String: len out of range")
    if n>IntKind.i64.max then unsupported (.unsafePointer "String: a length above the largest int")
    match p' with|none=>if n=0 then Pure.pure (.string .empty);else runtimePanic (.error "unsafe.String: ptr is nil and len is not zero");|some a=>if n=0 then Pure.pure (.string .empty);else if<-variablesAt a (<-elemOf pt) n.toNat then do let s<-loadBytes a .empty n.toNat;freeze a n.toNat;Pure.pure (.string s);else unsupported (.unsafePointer "String: not so many bytes at ptr")):=by intro p p' hp;refine ZE (ZdV hb) fun B1 n h1=>?_;cases ts[0]? with|none=>exact SR.halt _ (.stuck _) _ trivial|some pt=>
    dsimp only;split;·exact Zfw _ trivial
    ·split;·exact SR.halt _ (.unsupported _) _ trivial
     ·replace hp:=OA.mono h1 hp;cases p<;>cases p'<;>try exact hp.elim
      ·dsimp only;split;·exact Zx (.string _)
       ·exact ZbY trivial
      ·dsimp only;split;·exact Zx (.string _)
       ·refine ZE (Zmx pt) fun B2 e h2=>?_;refine ZE (Znf (AddrR.mono h2 hp) _ _) fun B3 b h3=>?_;split
        ·refine ZE (ZiY _ _ ((AddrR.mono h2 hp).mono h3)) fun B4 s h4=>?_;exact Za (Zmv hs (((AddrR.mono h2 hp).mono h3).mono h4)) fun B5 _ _ h5 _=>Zx (.string _)
        ·exact SR.halt _ (.unsupported _) _ trivial
  cases ha<;>first|exact SR.halt _ (.stuck _) _ trivial|exact main (p:=none) (p':=none) trivial|exact main (p:=some _) (p':=some _) ‹_›
theorem Znh(e:TypeId) {xs xs':Array Value} (h:AR G B xs xs') (f f':Addr->Sem Value) (hf:∀(B':Blk) (a a':Addr),B.le B'->AddrR B' a a'->SR G (QV G) B' (f a) (f' a')):SR G (QV G) B (newRow e xs>>=fun a=>markStringish a>>=fun _=>f a) (newRow e xs'>>=fun a=>markStringish a>>=fun _=>f' a):=by
 have key:∀(xs:Array Value)(f:Addr->Sem Value),(newRow e xs>>=fun a=>markStringish a>>=fun _=>f a)=.new (.cells xs e) fun r=>.shape r fun s=>(match s with|some (_,n)=>freeze ⟨r,n,none⟩ 1|none=>Pure.pure ())>>=fun _=>f ⟨r,0,none⟩:=by intro xs f;show Sem.new _ _=_;congr 1;funext r;show Sem.shape _ _=_;congr 1;funext s;cases s<;>rfl
 rw[key,key];refine .newF B xs xs' e (fun r=>f ⟨r,0,none⟩) (fun r=>f' ⟨r,0,none⟩) (fun r s=>(match s with|some (_,n)=>freeze ⟨r,n,none⟩ 1|none=>Pure.pure ())>>=fun _=>f ⟨r,0,none⟩)
  (fun r s=>(match s with|some (_,n)=>freeze ⟨r,n,none⟩ 1|none=>Pure.pure ())>>=fun _=>f' ⟨r,0,none⟩) h (fun r=>rfl) (fun r=>rfl) fun B' r r' hB hr=>hf B' _ _ hB (.mk _ _ _ _ hr)
theorem Zni(e:TypeId) (s:ByteArray):SR G (QV G) B (Conv.stringToBytes e s) (Conv.stringToBytes e s):=by
 unfold Conv.stringToBytes;refine ZE (Zdl _) fun B1 cap h1=>?_;refine Znh e (xs':=_) ⟨rfl,fun i v v' hv hv'=>?_⟩ _ _ fun B2 a a' h2 ha=>Zx (.slice _ _ _ _ ha)
 ·rw[hv]at hv';cases hv';rw[Array.getElem?_append]at hv;split at hv;·rw[Zup]at hv;obtain⟨x,hx,rfl⟩:=Zxf.1 hv;exact .int _ _
  ·rw[Array.getElem?_replicate]at hv;split at hv;·cases hv;exact .int _ _
   ·cases hv
theorem ZiZ{σ:Type} (f f':Value->σ->Sem (ForInStep σ)):∀{xs xs':List Value} (s:σ) {B:Blk},LR G B xs xs'->(∀(B':Blk) x x' s,B.le B'->VR G B' x x'->SR G QE B' (f x s) (f' x' s))->SR G QE B (forIn xs s f) (forIn xs' s f')|_,_,s,B,.nil,h=>by simp only[List.forIn_nil];exact Zx rfl|_,_,s,B,.cons v v' vs vs' hv hs,h=>by simp only[List.forIn_cons];refine ZE (h B v v' s (Blk.le_refl _) hv) fun B1 r h1=>?_;cases r with|done s=>exact Zx rfl|yield s=>exact ZiZ f f' s (hs.mono h1) fun B2 x x' s h2=>h B2 x x' s (Blk.le_trans h1 h2)
theorem Znj{v v':Value} (h:VR G B v v'):SR G (QV G) B (Conv.bytesToString v) (Conv.bytesToString v'):=by
 unfold Conv.bytesToString;cases h<;>try first|exact SR.halt _ (.stuck _) _ trivial|exact Zx (.string _)
 rename_i a a' l c ha;refine Za (ZgD ha l) fun B1 xs xs' h1 hx=>?_;refine ZE (α:=ByteArray) ?_ fun B2 s h2=>Zx (.string _);rw[<-Zui,<-Zui];refine ZiZ _ _ _ (AR.list hx) fun B2 x x' s h2 hx=>?_;cases hx<;>try exact SR.halt _ (.stuck _) _ trivial
 rename_i k n;cases k<;>first|exact SR.halt _ (.stuck _) _ trivial|exact Zx rfl
theorem Znk{src dst:TypeId} (hc:G.conv src dst=true) {x x':Value} (h:VR G B x x'):SR G (QV G) B (convert src dst x) (convert src dst x'):=by
 unfold convert;refine Za (Z4 src) fun B1 d d' h1 hd=>?_;obtain⟨rfl,hd⟩:=hd;refine Za (Z4 dst) fun B2 e e' h2 he=>?_;obtain⟨rfl,he⟩:=he;unfold Env.conv at hc;rw[hd,he]at hc;replace h:=(h.mono h1).mono h2;clear hd he h1 h2;cases d<;>cases e<;>(try cases hc);case int.int k k'=>cases h<;>first
   |exact Zx (.int _ _)|exact SR.halt _ (.unsupported .addressObserved) _ trivial|exact SR.halt _ (.unsupported (.noEntry _)) _ trivial
 case int.string k=>cases h<;>first
   |exact Zx (.string _)|exact SR.halt _ (.unsupported .addressObserved) _ trivial|exact SR.halt _ (.unsupported (.noEntry _)) _ trivial
 case string.string=>cases h<;>first
   |exact Zx (.string _)|exact SR.halt _ (.unsupported .addressObserved) _ trivial|exact SR.halt _ (.unsupported (.noEntry _)) _ trivial
 case string.slice el=>
  have hu:(match G.P.underlying el with|some (.int .u8)=>true|_=>false)=true:=hc;cases h<;>try exact SR.halt _ (.unsupported (.noEntry _)) _ trivial
  refine Za (Z4 el) fun B3 u u' h3 hu'=>?_;obtain⟨rfl,hu'⟩:=hu';rw[hu']at hu;split at hu;·rename_i heq;cases heq;exact Zni _ _
  ·cases hu
 case slice.string el=>
  have hu:(match G.P.underlying el with|some (.int .u8)=>true|_=>false)=true:=hc;have key:∀(v v':Value),VR G B2 v v'->SR G (QV G) B2 (do match<-underlying el with|.int .u8=>Conv.bytesToString v;|.int .i32=>Conv.runesToString v;|_=>stuck "Convert: a slice of what to string?") (do match<-underlying el with|.int .u8=>Conv.bytesToString v';|.int .i32=>Conv.runesToString v';|_=>stuck "Convert: a slice of what to string?"):=by
   intro v v' hv;refine Za (Z4 el) fun B3 u u' h3 hu'=>?_;obtain⟨rfl,hu'⟩:=hu';rw[hu']at hu;split at hu;·rename_i heq;cases heq;exact Znj (hv.mono h3)
   ·cases hu
  have h0:=h;cases h<;>first
   |exact Zx (.string _)|exact key _ _ h0|skip
  refine .dead _ _ _ fun l _=>?_;suffices hh:∃z,(do match<-underlying el with|.int .u8=>Conv.bytesToString (.tuple #[]);|.int .i32=>Conv.runesToString (.tuple #[]);|_=>stuck "Convert: a slice of what to string?").run G.P l=.halt z l/\Halt.quiet z from⟨_,l,hh.choose_spec.1,hh.choose_spec.2,fun _ _=>rfl⟩;rw[Sem.run_bind,ZiW];cases G.P.underlying el with|none=>exact⟨_,rfl,trivial⟩|some d=>simp only[Result.andThen];cases d<;>first|exact⟨_,rfl,trivial⟩|(rename_i k;cases k<;>exact⟨_,rfl,trivial⟩)
theorem Znl(t:TypeId) {x x':Value} (h:VR G B x x'):SR G (QV G) B (Instr.makeInterface t x) (Instr.makeInterface t x'):=by unfold Instr.makeInterface;refine Za (Z4 t) fun B1 d d' h1 hd=>?_;obtain⟨rfl,hd⟩:=hd;cases d<;>first|exact SR.halt _ (.stuck _) _ trivial|exact Zx (.iface _ _ _ (h.mono h1))
theorem Znm{t a:TypeId} (hz:G.zero a=true) {x x':Value} (h:VR G B x x'):SR G (QV G) B (Instr.typeAssert x t a true) (Instr.typeAssert x' t a true):=by
 unfold Instr.typeAssert;refine Za (Z4 a) fun B1 d d' h1 hd=>?_;obtain⟨rfl,hd⟩:=hd;replace h:=h.mono h1;have hz':∀(B':Blk),SR G (QV G) B' (do Pure.pure (Value.tuple #[<-zeroValue a,.bool false])) (do Pure.pure (Value.tuple #[<-zeroValue a,.bool false])):=fun B'=>Za (Zdm hz) fun B2 z z' h2 hzz=>Zx (Zh ((AR.one hzz.1).push (.bool _)));have hh:VR G B1 (.tuple #[x,.bool true]) (.tuple #[x',.bool true]):=Zh ((AR.one h).push (.bool _));cases h<;>cases d<;>try first|exact SR.halt _ (.stuck _) _ trivial|exact hz' _
 case iface.interface ty v v' hv want=>
  refine Za (Zbw ty) fun B2 i i' h2 hi=>?_;obtain⟨rfl,_⟩:=hi;split;·exact Zx (hh.mono h2)
  ·exact hz' _
 all_goals exact ZaB (fun _=>Zx (Zh ((AR.one (by assumption)).push (.bool _)))) fun _=>hz' _
theorem Znn{t:TypeId} (ht:G.P.underlying t=some .string) {x x':Value} (h:VR G B x x'):SR G (QV G) B (Instr.range t x) (Instr.range t x'):=by
 unfold Instr.range;refine Za (Z4 t) fun B1 d d' h1 hd=>?_;obtain⟨rfl,hd⟩:=hd;rw[ht]at hd;cases hd;cases h<;>try exact SR.halt _ (.stuck _) _ trivial
 refine Za (Q:=fun B o o'=>OR G B o o') (Zx (.iter _ _)) fun B2 o o' h2 ho=>?_;exact Za (ZdS ho) fun B3 r r' h3 hr=>Zx (.ptr _ _ (.mk _ _ _ _ hr))
theorem Zno{t:TypeId} {x x':Value} (h:VR G B x x'):SR G (QV G) B (Instr.next x true t) (Instr.next x' true t):=by
 unfold Instr.next;cases h<;>try exact SR.halt _ (.stuck _) _ trivial
 rename_i a a' ha;cases ha with|mk b b' o s hb=>
  cases o<;>try exact SR.halt _ (.stuck _) _ trivial
  refine Za (ZdT hb) fun B1 o o' h1 ho=>?_;cases ho<;>try exact SR.halt _ (.stuck _) _ trivial
  rename_i st p;refine ZaB (fun _=>?_) fun _=>Zx (Zh (AR.one (.bool _)));exact Za (ZeA (h1 _ _ hb) (.iter _ _)) fun B2 _ _ h2 _=>Zx (Zh (((AR.one (.bool _)).push (ZbZ _)).push (.int _ _)))
theorem run_panicnil(P:Program)(l:World):(∃n w,Instr.panicnil.run P l=.ok n w/\w.heap=l.heap)∨∃x w,Instr.panicnil.run P l=.halt x w/\Halt.quiet x/\w.heap=l.heap:=by unfold Instr.panicnil;have e:(sys .env).run P l=.ok (l.sys .env).1 (l.sys .env).2:=rfl;have hh:(l.sys .env).2.heap=l.heap:=rfl;simp only[Sem.run_bind,e,Result.andThen_ok];generalize (l.sys .env).1=r;generalize (l.sys .env).2=w at hh;cases r<;>first|exact .inr ⟨_,_,rfl,trivial,hh⟩|exact .inl ⟨_,_,rfl,hh⟩
theorem Znp(P:Program)(l:World):∃x w,(runtimePanic .panicNil:Sem Value).run P l=.halt x w/\Halt.quiet x/\∀b,b<l.heap.size->w.heap[b]?=l.heap[b]?:=by unfold runtimePanic;simp only[Sem.run_bind,run_program,Result.andThen_ok,elemOf,underlying];cases h:P.underlying P.rt.panicNilError with|none=>exact⟨_,_,rfl,trivial,fun _ _=>rfl⟩|some d=>cases d<;>first|exact⟨_,_,rfl,trivial,fun _ _=>rfl⟩|exact⟨_,_,rfl,trivial,fun b hb=>by simp[Zut hb]⟩
theorem Znq{x x':Value} (h:VR G B x x'):SR G (QV G) B (Instr.panic x) (Instr.panic x'):=by
 unfold Instr.panic;cases h<;>try first|exact SR.halt _ (.stuck _) _ trivial|exact SR.halt _ (.panic _) _ trivial
 refine SR.dead _ _ _ fun l _=>?_;simp only[Sem.run_bind];rcases run_panicnil G.P l with⟨n,w,h,hh⟩|⟨x,w,h,hq,hh⟩
 ·rw[h];simp only[Result.andThen_ok];split;·exact⟨_,_,rfl,trivial,fun b hb=>by rw[hh]⟩
  ·have:=Znp G.P w;rw[hh]at this;exact this
 ·rw[h];exact⟨x,w,rfl,hq,fun b hb=>by rw[hh]⟩
end
inductive NR (G:Env)(B:Blk):Next->Next->Prop|value (v v':Value) (h:VR G B v v'):NR G B (.value v) (.value v')|skip:NR G B .skip .skip|enter (f:FuncId) (xs xs':Array Value) (hf:G.good f=true) (h:AR G B xs xs'):NR G B (.enter f xs) (.enter f xs')|round (l l':Nat) (f:FuncId) (t t':Array Value) (as body:Code) (hl:B l l') (h:AR G B t t') (ha:G.code as=true) (hb:G.code body=true):NR G B (.round l f t as body) (.round l' f t' as body)
structure Env.Fine (G:Env):Prop where
 code:G.free=false->∀f fn c,G.good f=true->G.P.funcs[f]?=some fn->fn.body=some c->G.code c=true
 mark:∀f fn c,G.good f=true->G.P.funcs[f]?=some fn->fn.body=some c->Zag c=true
 nn:G.junk=true->G.nn=true
 name:∀f fn,G.good f=true->G.P.funcs[f]?=some fn->(fn.name== "runtime.NumGoroutine")=false
 next:∀f fn,G.good f=true->G.P.funcs[f]?=some fn->fn.body.isNone=true->Extern.findNext fn=none
 ext:∀f fn e,G.good f=true->G.P.funcs[f]?=some fn->fn.body.isNone=true->Extern.find fn=some e->∀B xs xs',AR G B xs xs'->SR G (QV G) B (e xs) (e xs')
section
variable {G:Env} {α β:Type} {Q:Blk->α->β->Prop} {B:Blk}
def QN(G:Env):Blk->Next->Next->Prop:=fun B a b=>NR G B a b
theorem Zai{s s':Sem Value} (h:SR G (QV G) B s s'):SR G (QN G) B (do Pure.pure (.value (<-s))) (do Pure.pure (.value (<-s'))):=Za h fun B1 v v' h1 hv=>Zx (.value _ _ hv)
theorem Znr{s s':Sem Unit} (h:SR G QU B s s'):SR G (QN G) B (do s;Pure.pure .skip) (do s';Pure.pure .skip):=Za h fun B1 v v' h1 hv=>Zx .skip
theorem Zns(hG:G.Fine) {f:FuncId} (hf:G.good f=true) {xs xs':Array Value} (h:AR G B xs xs'):SR G (QN G) B (callFunc f xs) (callFunc f xs'):=by unfold callFunc;refine Za Zbv fun B1 p p' h1 hp=>?_;obtain⟨rfl,rfl⟩:=hp;cases hfn:G.P.funcs[f]? with|none=>exact SR.halt _ (.stuck _) _ trivial|some fn=>dsimp only;have e1:=hG.name f fn hf hfn;rw[e1];refine ZaB (fun h=>by simp at h) fun _=>?_;refine ZaB (fun hb=>?_) fun _=>Zx (.enter _ _ _ hf (h.mono h1));refine Za (ZiB trivial) fun B2 _ _ h2 _=>?_;rw[hG.next f fn hf hfn hb];dsimp only;cases he:Extern.find fn with|some e=>exact Zai (hG.ext f fn e hf hfn hb he _ _ _ ((h.mono h1).mono h2))|none=>exact ZaB (fun _=>Zx (.value _ _ (Zh AR.empty))) fun _=>SR.halt _ (.unsupported (.extern _)) _ trivial
theorem Zi0:∀(ps:List Tmp) {vs vs':List Value} {t t':Array Value},LR G B vs vs'->AR G B t t'->AR G B ((ps.zip vs).foldl (fun t x=>t.setIfInBounds x.1 x.2) t) ((ps.zip vs').foldl (fun t x=>t.setIfInBounds x.1 x.2) t')|[],_,_,_,_,_,h=>h|p::ps,_,_,_,_,.nil,h=>h|p::ps,_,_,_,_,.cons v v' vs vs' hv hs,h=>Zi0 ps hs (h.set p hv)
theorem Znt{l l':Nat} (hl:B l l') {xs xs':Array Value} (h:AR G B xs xs'):SR G (QN G) B (Instr.yield l xs) (Instr.yield l' xs'):=by
 unfold Instr.yield Instr.getLoop;refine Za (Q:=fun B (r r':Loop)=>OR G B (.loop r) (.loop r')) (Za (ZdT hl) fun B1 o o' h1 ho=>?_) fun B1 r r' h1 hr=>?_
 ·have h0:=ho;cases ho<;>try exact SR.halt _ (.stuck _) _ trivial
  exact Zx h0
 ·cases hr with|loop s p f t t' ps as body d d' hp ht ha hb hd=>rw[h.size];dsimp only;refine ZaB (fun _=>SR.halt _ (.stuck _) _ trivial) fun _=>?_;refine Zx (.round _ _ _ _ _ _ _ (h1 _ _ hl) ?_ ha hb);have h':=Zi0 ps.toList (h.mono h1).list ht;rw[<-Array.toList_zip,<-Array.toList_zip,Array.foldl_toList,Array.foldl_toList]at h';exact h'
inductive TR (G:Env)(B:Blk):Target->Target->Prop|func (f:FuncId) (xs xs':Array Value) (hf:G.good f=true) (h:AR G B xs xs'):TR G B (.fn (.func f) xs) (.fn (.func f) xs')|yield (l l':Nat) (xs xs':Array Value) (hl:B l l'):TR G B (.fn (.yield l) xs) (.fn (.yield l') xs')|nil:TR G B .nil .nil|builtin (b:Builtin)(ts:Array TypeId)(t:TypeId)(cs:Array Bool)(hb:G.call {callee:=.builtin b,args:=#[],argTypes:=ts}=true):TR G B (.builtin b ts t cs) (.builtin b ts t cs)
theorem Znu{b:Builtin} {ts:Array TypeId} {t:TypeId} {cs:Array Bool} (hb:G.call {callee:=.builtin b,args:=#[],argTypes:=ts}=true) {xs xs':Array Value} (h:AR G B xs xs'):SR G (QN G) B (builtin b ts t cs xs) (builtin b ts t cs xs'):=by
 unfold builtin;unfold Env.call at hb;cases b<;>(try cases hb);case append=>
  simp only[ZuM]at hb;refine Zai (ZmS (fun s hs=>?_) (fun s k hs hk=>?_) h);·have:=hb.1;rw[hs]at this;exact this
  ·have:=hb.2;rw[hs]at this;dsimp only at this;rw[hk]at this;cases this
 ·exact Zai (ZmU (fun s d e hs hk=>by rw[hs]at hb;dsimp only at hb;rw[hk]at hb;cases hb) h)
 ·exact Zai (Zne h)
 ·exact Zai (ZmT (fun s d e hs hk=>by rw[hs]at hb;dsimp only at hb;rw[hk]at hb;cases hb) h)
 ·exact Zai (Znc h)
 ·exact Zai (Znd h)
 ·exact Zai (Zng (by simpa using hb) h)
theorem ZgR(hG:G.Fine) {d d':Target} (hd:TR G B d d') {xs xs':Array Value} (h:AR G B xs xs'):SR G (QN G) B (invoke d xs) (invoke d' xs'):=by unfold invoke;cases hd with|func f ys ys' hf hy=>exact Zns hG hf (h.append hy)|yield l l' ys ys' hl=>exact Znt hl h|nil=>exact ZbY trivial|builtin b ts t cs hb=>exact Znu hb h
def Ops(G:Env) (B:Blk) (ρ ρ':Operand->Value):Prop:=∀x,G.operand x=true->VR G B (ρ x) (ρ' x)
theorem ZgS{ρ ρ':Operand->Value} (h:Ops G B ρ ρ') {xs:Array Operand} (hx:∀x∈xs,G.operand x=true):AR G B (xs.map ρ) (xs.map ρ'):=by refine⟨by simp,fun i v v' hv hv'=>?_⟩;rw[Zup]at hv hv';obtain⟨x,hx',rfl⟩:=Zxf.1 hv;rw[hx']at hv';cases hv';exact h x (hx x (ZuD hx'))
theorem Znv{ρ ρ':Operand->Value} (h:Ops G B ρ ρ') {c:Call} (hc:G.call c=true) (hx:∀x∈c.operands,G.operand x=true) (t:TypeId):SR G (fun B (d d':Deferred)=>TR G B d.target d'.target/\AR G B d.args d'.args) B (resolve ρ c t) (resolve ρ' c t):=by unfold resolve;obtain⟨callee,args,ts⟩:=c;have hA:∀x∈args,G.operand x=true:=fun x hx'=>hx x (by simp[Call.operands,hx']);have hm:=ZgS h hA;cases callee with|builtin b=>exact Zx ⟨.builtin b ts t _ hc,hm⟩|invoke r n=>cases hc|value f=>
  have hf:=h f (hx f (by simp[Call.operands]));dsimp only;unfold Deferred.ofValue;generalize ρ f=v at hf |-;generalize ρ' f=v' at hf |-;cases hf<;>try exact SR.halt _ (.stuck _) _ trivial
  ·rename_i fn fn' ys ys' zs zs' hfn hy1 hy2 hz1 hz2;refine Zx ⟨?_,AR.append ⟨hy1,hy2⟩ hm⟩;cases hfn with
   |func f hf=>exact .func f _ _ hf ⟨hz1,hz2⟩|yield l l' hl=>exact .yield l l' _ _ hl
  ·exact Zx ⟨.nil,hm⟩
end
section
variable {G:Env} {α β:Type} {Q:Blk->α->β->Prop} {B:Blk}
theorem ZgT{ρ ρ':Operand->Value} (h:Ops G B ρ ρ'):∀{ps:List (Nat×Operand)},(∀x∈ps,G.operand x.2=true)->PR G B (ps.map fun x=>(x.1,ρ x.2)) (ps.map fun x=>(x.1,ρ' x.2))|[],_=>.nil|(i,x)::ps,hx=>.cons i _ _ _ _ (h x (hx (i,x) (by simp))) (ZgT h fun y hy=>hx y (by simp[hy]))
theorem ZgU{ρ ρ':Operand->Value} (h:Ops G B ρ ρ') {o:Option Operand} (hx:∀x,o=some x->G.operand x=true):OV G B (o.map ρ) (o.map ρ'):=by cases o with|none=>trivial|some x=>exact h x (hx x rfl)
theorem Znw{ρ:Operand->Value} (hd:∀g,G.dark g=true->ρ (.global g)=.pointer (some ⟨g,0,none⟩)) {o:Oper} (ho:G.darkOp o.op=true)(l:World)(hl:∀g,G.dark g=true->l.heap[g]?=some (.deferred none)):(execOp ρ o).run G.P l=.halt (.stuck "load: no such cell") l:=by
 unfold Env.darkOp at ho;split at ho
 ·rename_i t g hop;simp only[ZuM]at ho;obtain⟨h1,h2⟩:=ho;split at h2
  ·rename_i ms hu;have e:execOp ρ o=(do Pure.pure (.value (<-Instr.loadAt t (ρ (.global g))))):=by unfold execOp;rw[hop]
   rw[e,hd g h1];have hc:l.cell? ⟨g,0,none⟩=none:=by simp[World.cell?,hl g h1]
   have hf:l.farLoad G.P ⟨g,0,none⟩ (Mode.plain==Mode.atomic)=.error (.stuck "load: no such cell"):=by simp[World.farLoad,World.noCell,hl g h1]
   simp only[Instr.loadAt,Instr.sureAddr,loadVar,isAgg,underlying,Sem.run_bind,program,Sem.run,Result.andThen,hu,load,hc,hf];simp[Sem.run,hc,hf,Result.andThen,pure,Pure.pure,bind,Bind.bind,Sem.bind]
  ·cases h2
 ·cases ho
theorem Znx(hG:G.Fine) {ρ ρ':Operand->Value} (h:Ops G B ρ ρ') {o:Oper} (ho:G.op0 o.op=true):SR G (QN G) B (execOp ρ o) (execOp ρ' o):=by
 unfold Env.op0 at ho;simp only[ZuM]at ho;obtain⟨hx,ho⟩:=ho;have hX:∀x∈o.op.operands,G.operand x=true:=fun x hx'=>Zub.1 hx x hx';clear hx;obtain⟨dst,op,ty,pos,after,guard⟩:=o;dsimp only at ho hX;unfold execOp;dsimp only;cases op<;>(try cases ho)<;>dsimp only;case move x=>exact Zx (.value _ _ (h x (hX x (by simp[Op.operands]))))
 case assign x=>exact Zx (.value _ _ (h x (hX x (by simp[Op.operands]))))
 case pick c a b=>
  refine ZE (ZgF (h c (hX c (by simp[Op.operands])))) fun B1 t h1=>?_;refine Zx (.value _ _ ?_);split;·exact(h a (hX a (by simp[Op.operands]))).mono h1
  ·exact(h b (hX b (by simp[Op.operands]))).mono h1
 case alloc e=>exact Zai (ZmA ho)
 case box e x=>exact Zai (ZmB (h x (hX x (by simp[Op.operands]))))
 case build t ps=>refine Zai (ZmM ho ?_);have:=ZgT h (ps:=ps.toList) fun x hx=>hX x.2 (by simp[Op.operands];exact⟨x.1,by simpa using hx⟩);simpa using this
 case buildSlice t l ps=>refine Zai (ZmP ho ?_);have:=ZgT h (ps:=ps.toList) fun x hx=>hX x.2 (by simp[Op.operands];exact⟨x.1,by simpa using hx⟩);simpa using this
 case load t a=>exact Zai (ZmC (h a (hX a (by simp[Op.operands]))))
 case store t a x=>exact Znr (ZmD (h a (hX a (by simp[Op.operands]))) (h x (hX x (by simp[Op.operands]))))
 case nilCheck x=>
  have hv:=h x (hX x (by simp[Op.operands]));generalize ρ x=v at hv |-;generalize ρ' x=v' at hv |-;have h0:=hv;cases hv<;>first
   |exact Zx (.value _ _ h0)|exact ZbY (e:=.nilDeref) trivial|(rename_i hf _;rw[hG.nn hf]at ho;simp at ho;done)|skip
  rename_i hfn _ _ _ _;cases hfn<;>exact Zx (.value _ _ h0)
 case binOp b t x y yt=>have hx:=h x (hX x (by simp[Op.operands]));have hy:=h y (hX y (by simp[Op.operands]));refine Zai (Za (Zm4 b t x y hx hy) fun B1 _ _ h1 _=>Zm9 b t (fun hb=>?_) (hx.mono h1) (hy.mono h1));rcases hb with rfl|rfl<;>simpa using ho
 case unOp u t x=>exact Zai (ZmV u (h x (hX x (by simp[Op.operands]))))
 case convert s d x=>exact Zai (Znk ho (h x (hX x (by simp[Op.operands]))))
 case makeInterface t x=>exact Zai (Znl t (h x (hX x (by simp[Op.operands]))))
 case makeFunc fn xs ys=>change G.fnOk fn=true at ho;unfold Env.fnOk at ho;cases fn<;>(try cases ho);·exact Zai (Zx (Zl (.func _ ho) (ZgS h fun x hx=>hX x (by simp[Op.operands,hx])) (ZgS h fun x hx=>hX x (by simp[Op.operands,hx]))))
 case makeSlice t l c=>exact Zai (ZmQ ho (h l (hX l (by simp[Op.operands]))) (h c (hX c (by simp[Op.operands]))))
 case slice t x lo hi mx=>exact Zai (ZmL (h x (hX x (by simp[Op.operands]))) (ZgU h fun y hy=>hX y (by simp[Op.operands,hy])) (ZgU h fun y hy=>hX y (by simp[Op.operands,hy])) (ZgU h fun y hy=>hX y (by simp[Op.operands,hy])) t)
 case fieldAddr t x i=>exact Zai (ZmH (h x (hX x (by simp[Op.operands]))) t i ho)
 case field t x i=>exact Zai (ZmF (h x (hX x (by simp[Op.operands]))) t i)
 case indexAddr t x y=>exact Zai (ZmI (h x (hX x (by simp[Op.operands]))) (h y (hX y (by simp[Op.operands]))) t)
 case index t x y=>exact Zai (ZmG (h x (hX x (by simp[Op.operands]))) (h y (hX y (by simp[Op.operands]))) t)
 case range t x=>
  change (match G.P.underlying t with|some .string=>true|_=>false)=true at ho;split at ho;·exact Zai (Znn ‹_› (h x (hX x (by simp[Op.operands]))))
  ·cases ho
 case next x=>exact Zai (Zno (h x (hX x (by simp[Op.operands]))))
 case typeAssert x t a ok=>simp only[ZuM]at ho;obtain⟨rfl,hz⟩:=ho;exact Zai (Znm hz (h x (hX x (by simp[Op.operands]))))
 case extract x i=>exact Zai (ZmE (h x (hX x (by simp[Op.operands]))) i)
 case call c=>exact Za (Znv h ho (fun x hx=>hX x (by simpa [Op.operands] using hx)) ty) fun B1 d d' h1 hd=>ZgR hG hd.1 hd.2
 case panic x=>exact Zai (Znq (h x (hX x (by simp[Op.operands]))))
theorem ZgV(hG:G.Fine) {ρ ρ':Operand->Value} (h:Ops G B ρ ρ') (hdk:∀g,G.dark g=true->ρ (.global g)=.pointer (some ⟨g,0,none⟩)) {o:Oper} (ho:G.op o.op=true):SR G (QN G) B (execOp ρ o) (execOp ρ' o):=by
 unfold Env.op at ho;rcases(ZuV _ _▸ho:G.darkOp o.op=true∨G.op0 o.op=true)with hdo|hdo;·exact .dead _ _ _ fun l hl=>⟨_,l,Znw hdk hdo l hl,trivial,fun _ _=>rfl⟩
 ·exact Znx hG h hdo
end
end Go.Twin
