import Derived.Test.YtgiiimibmccpiaaGreatDoorMg6
import Derived.Lib.Split
import Derived.Lib.Join
import Derived.Lib.Atoi
import Derived.Lib.ItoaNum
set_option linter.unusedVariables false
set_option linter.unusedSimpArgs false
set_option maxRecDepth 100000
set_option maxHeartbeats 16000000
namespace Go
theorem Zx2:type_of% @List.getElem?_of_mem:=@List.getElem?_of_mem
theorem ZyI:type_of% @List.mem_toArray:=@List.mem_toArray
end Go
namespace Go.Proofs
open Tryz
open Go.RowKit Go.Twin Go.Conc
variable {S:Env} {X:Nat->Prop} {b o n c np:Nat} {s:Option Nat} {A:Option Addr} {l l1:World} {es:List En} {ws:List Int}
attribute [local go_sem] Oper.semAt_some Zdl Zdm Zdn ZcF Zdo Zdp theorem ZfM(h:VR S (idX X) (.slice (some ⟨b,o,s⟩) n c) (.slice (some ⟨b,o,s⟩) n c)) (hz:S.z0=false:=by rfl):X b:=by cases h with|slice0 _ h=>rw[hz]at h;cases h|slice _ _ _ _ h=>cases h with|mk _ _ _ _ h=>exact h.2
theorem Zju(h:∀b o s,A=some ⟨b,o,s⟩->X b):VR S (idX X) (.slice A n c) (.slice A n c):=by cases A with|none=>exact .nilSlice _ _|some a=>obtain⟨b,o,s⟩:=a;exact .slice _ _ _ _ (.mk _ _ _ _ ⟨rfl,h b o s rfl⟩)
theorem ZeP(h:X b):VR S (idX X) (.pointer (some ⟨b,o,s⟩)) (.pointer (some ⟨b,o,s⟩)):=.ptr _ _ (.mk _ _ _ _ ⟨rfl,h⟩)
theorem Zg3{Y:Nat->Prop} (h:∀b,X b->Y b):(idX X).le (idX Y):=fun b a x=>⟨x.1,h _ x.2⟩
theorem Zg4(hcl:Zba S X l) {a:Addr} {v:Value} (d:X a.block)(hv:l.cell? a=some v):VR S (idX X) v v:=by
 obtain⟨c,T,g,e,f⟩:=hcl _ d;simp only[World.cell?,e]at hv;split at hv;·cases hv
 ·exact f v (ZwB hv)
theorem Zjv{α:Type} {sz:Nat} {cs:α->List Value} {xs:List α} (i:∀b o s,A=some ⟨b,o,s⟩->X b)(d:l.heap.size<=l1.heap.size)(m:∀a v,X a.block->l.cell? a=some v->l1.cell? a=some v)(h:At sz cs l A xs):At sz cs l1 A xs:=by intro k x q;obtain⟨b,o,e,f,g⟩:=h k x q;exact⟨b,o,e,Zzf f d,fun j v p=>m _ _ (i _ _ _ e) (g j v p)⟩
theorem Zm9(hcl:Zba S X l) (hf:VR S (idX X) (.slice A n c) (.slice A n c)) (d:l.heap.size<=l1.heap.size) (j:∀a v,X a.block->l.cell? a=some v->l1.cell? a=some v) (h:Zat l A es) (hz:S.z0=false:=by rfl):Zat l1 A es:=by
 have i:∀b o s,A=some ⟨b,o,s⟩->X b:=fun b o s e=>by subst e;exact ZfM hf hz
 refine⟨Zjv i d j h.1,fun x m=>Zjv (X:=X) (fun b o s e=>?_) d j (h.2 x m)⟩;obtain⟨k,f⟩:=Zx2 m;obtain⟨t,y,p,u,q⟩:=h.1 k x f;have r:=q 1 _ rfl;have g:=Zg4 hcl (i _ _ _ p) r;rw[e]at g;exact ZfM g hz
structure BtAt (l:World)(pA eA:Option Addr)(np pc en ec:Nat)(es:List En)(X:Nat->Prop):Prop where
 R:RightE es np
 E:Zat l eA es
 hen:es.length=en
 h1:1<=np
 h5:np<=5
 hX:Zba EnvS X l
 fp:VR EnvS (idX X) (.slice pA np pc) (.slice pA np pc)
 fe:VR EnvS (idX X) (.slice eA en ec) (.slice eA en ec)
 gsz:prog.globals.size<=l.heap.size
structure LtAt (l:World)(A:Option Addr)(np:Nat)(es:List En)(ws:List Int):Prop where
 W:At 1 Zc l A ws
 wn:ws.length=np
 hws:ZM 400 ws
 mix:∀m d p,solvedL np (exs es) ws=some (m,d,p)->m.length=np/\ZM 1228800000000000 m
theorem LtAt.cells(h:LtAt l A np es ws)(j:1<=np):∃b o,A=some ⟨b,o,none⟩/\∃c T f,l.heap[b]?=some (.cells c T f):=by
 have d:0<ws.length:=by rw[h.wn];omega
 obtain⟨b,o,g,_,i⟩:=h.W 0 _ (ZxX d);refine⟨b,o,g,?_⟩;have a:=i 0 _ rfl;unfold World.cell? at a;cases e:l.heap[b]? with
 |none=>rw[e]at a;cases a|some ob=>rw[e]at a;cases ob with|cells c T f=>exact⟨c,T,f,rfl⟩|_=>cases a
def Zab(a:Nat)(A:Option Addr)(n:Nat)(b:Nat):Prop:=b=a∨b=n∨b=n+1∨∃o,A=some ⟨b,o,none⟩
theorem Zae:ZaI.P=prog:=rfl
theorem ZtB:SubG EnvS ZaI ZaI:=⟨rfl,rfl,Zg0.good⟩
theorem ZtC (w:Value) (a:Nat):Frame.enter prog 107 #[w,.pointer (some ⟨a,0,none⟩)] .normal=(Go.Conc.base 107).at ⟨#[w,.pointer (some ⟨a,0,none⟩),zu,zu,zu,zu,zu,zu],[]⟩ [.code (Tryz.f107.body.getD .skip)]:=by rw[enter_at (fn:=Tryz.f107) (c:=Tryz.f107.body.getD .skip) _ func107 rfl];rfl
theorem ZtD (a e d:Nat):(Go.Conc.base 108).at ⟨#[.pointer (some ⟨a,0,none⟩),.pointer (some ⟨e,0,none⟩),.pointer (some ⟨d,0,none⟩)]++Array.replicate (Tryz.f108.ntmps-(#[.pointer (some ⟨a,0,none⟩),.pointer (some ⟨e,0,none⟩),.pointer (some ⟨d,0,none⟩)]:Array Value).size) undef,[]⟩ [.code ZfL]=(Go.Conc.base 108).at ⟨#[.pointer (some ⟨a,0,none⟩),.pointer (some ⟨e,0,none⟩),.pointer (some ⟨d,0,none⟩),zu,zu,zu,zu,zu,zu,zu,zu,zu,zu,zu,zu,zu,zu,zu,zu,zu,zu,zu,zu,zu,zu,zu],[]⟩ [.code ZfL]:=by rw[show Tryz.f108.ntmps=26 from by kernel_rfl];walk_nrm
theorem Zna:∃i,prog.info? 166=some i/\i.bytes=24:=by
 have h:(prog.info? 166).map (·.bytes)=some 24:=by kernel_rfl
 obtain⟨i,d,a⟩:=ZzC.1 h;exact⟨i,d,a⟩
theorem Znb:∃d,prog.underlying 164=some (.chan d 166):=⟨.both,by kernel_rfl⟩
theorem mkE(w:World):(Instr.makeChan 164 (.int .i64 1)).run prog w=.ok (.chan (some w.heap.size)) (w.alloc (.chan 1 #[] false 0 0 false)):=by obtain⟨i,f,a⟩:=Zna;obtain⟨d,e⟩:=Znb;simpa using run_makeChan (P:=prog) (w:=w) e f .i64 1 (by omega) (by rw[a];omega)
theorem ZtE(w:World)(es:Array Event):(Instr.makeChan 164 (.int .i64 1)).events prog w es=es:=by obtain⟨i,f,a⟩:=Zna;obtain⟨d,e⟩:=Znb;simpa using events_makeChan (P:=prog) (w:=w) e f .i64 1 (by omega) (by rw[a];omega) es
theorem Znc{W0:World} {J:Nat->Option Job} {U:Nat->Prop} {Post:Value->World->Prop} {sh:Nat->Prop} {bs:List Frame} {pA eA d:Option Addr} {pc en ec wc g:Nat} {c:Frame} {cs:List Frame} (hJ:∀k j,J k=some j->ZcD ZaI j)(hB:BtAt l pA eA np pc en ec es X)(hL:LtAt l d np es ws)(aG:∀b,X b->sh b)(b0:l.cell? ⟨g,0,none⟩=some (.slice pA np pc))(b1:l.cell? ⟨g,1,none⟩=some (.slice eA en ec))(aL:cs≠[])(kk:∀t K l',W0.heap.size<=t->0<K->J K=none->Zba EnvS (fun b=>X b∨Zab g d l.heap.size b) l'->(∀a v,l.cell? a=some v->VR EnvS (idX fun b=>X b∨Zab g d l.heap.size b) v v->l'.cell? a=some v)->l.heap.size+2=l'.heap.size->(∀b,b<l.heap.size->¬Zab g d l.heap.size b->l'.heap[b]?=l.heap[b]?)->LG ZaI (StopK ZaI W0 (Go.ConcN.upd J K (some ⟨t,fun v=>v=wkV np es ws,[bot prog],ZbL prog 108 t (fun v=>v=wkV np es ws)⟩)) (fun x=>U x∨x=K) none Post (fun b=>sh b∨Zab g d l.heap.size b) bs) (c.finish (.chan (some t))) cs l'):LG ZaI (StopK ZaI W0 J U none Post sh bs) (Frame.enter prog 107 #[.slice d np wc,.pointer (some ⟨g,0,none⟩)] .normal) (c::cs) l:=by
 rw[ZtC];simp only[Tryz.f107,ZzA];refine Zah ZS ?_;refine Zbi ZS ?_;simp only[ZyT,Zyd,Zyg,Nat.reduceAdd,Zzw,List.range,List.range.loop];refine ZQ ZS rfl rfl (by decide) (by kernel_rfl) (fun y u K m p=>?_);simp only[Zae];go_simp;first|refine m _ _ ?_|refine p _ ?_
 clear m p K y u;try walk_nrm
 refine ZQ ZS rfl rfl (by decide) (by kernel_rfl) (fun y u K m p=>?_);simp only[Zae];go_simp;first|refine m _ _ ?_|refine p _ ?_
 clear m p K y u;try walk_nrm
 refine Zbj ZS ?_;refine Zah ZS ?_;refine Zbi ZS ?_;simp only[ZyT,Zyd,Zyg,Nat.reduceAdd,Zzw,List.range,List.range.loop];refine .stop _ _ _ (ZsZ rfl (by simp) rfl rfl (fun a w=>?hr1) (fun a w=>?he1) fun t aI=>?_);case hr1=>have:=mkE w;simp only[Zae];simp[go_sem,execOp,this,Act.eval]
 case he1=>have h1:=mkE w;have H:=ZtE w;simp only[Zae];simp[go_sem,execOp,h1,H,Act.eval]
 refine ZfJ Zd6 rfl hJ ?_;walk_nrm;refine ZQ ZS rfl rfl (by decide) (by kernel_rfl) (fun y u K m p=>?_);simp only[Zae];go_simp;first|refine m _ _ ?_|refine p _ ?_
 clear m p K y u;try walk_nrm
 refine ZQ ZS rfl rfl (by decide) (by kernel_rfl) (fun y u K m p=>?_);simp only[Zae];go_simp;first|refine m _ _ ?_|refine p _ ?_
 clear m p K y u;try walk_nrm
 refine Zbj ZS ?_;refine Zah ZS ?_;refine Zbi ZS ?_;simp only[ZyT,Zyd,Zyg,Nat.reduceAdd,Zzw,List.range,List.range.loop];refine ZQ ZS rfl rfl (by decide) (by kernel_rfl) (fun y u K m p=>?_);simp only[Zae];go_simp;first|refine m _ _ ?_|refine p _ ?_
 clear m p K y u;try walk_nrm
 have i:∀b,b<l.heap.size->(((l.alloc (.cells #[.slice d np wc] 31)).alloc (.cells #[.chan (some t)] 164))).heap[b]?=l.heap[b]?:=fun b O=>by show ((l.heap.push _).push _)[b]?=_;rw[Zwr (by simp;omega),Zwx O,Zwk O]
 have n0:(((l.alloc (.cells #[.slice d np wc] 31)).alloc (.cells #[.chan (some t)] 164))).heap[l.heap.size]?=some (.cells #[.slice d np wc] 31 (0,0)):=by show ((l.heap.push _).push _)[l.heap.size]?=_;rw[Zwq,Zwq];simp
 have n1:(((l.alloc (.cells #[.slice d np wc] 31)).alloc (.cells #[.chan (some t)] 164))).heap[l.heap.size+1]?=some (.cells #[.chan (some t)] 164 (0,0)):=by show ((l.heap.push _).push _)[l.heap.size+1]?=_;rw[Zwq];simp
 have r:(((l.alloc (.cells #[.slice d np wc] 31)).alloc (.cells #[.chan (some t)] 164))).heap.size=l.heap.size+2:=by simp
 obtain⟨wb,wo,M,aJ⟩:=hL.cells hB.h1;have L:∀{b:Nat} {o:Obj},l.heap[b]?=some o->b<l.heap.size:=fun h=>(Zwm.1 h).1;have aH:∃c T f,l.heap[g]?=some (.cells c T f):=by have H:=b0;unfold World.cell? at H;cases hh:l.heap[g]? with|none=>rw[hh]at H;cases H|some ob=>rw[hh]at H;cases ob with|cells c T f=>exact⟨c,T,f,rfl⟩|_=>cases H
 obtain⟨G,aB⟩:∃G,((l.alloc (.cells #[.slice d np wc] 31)).alloc (.cells #[.chan (some t)] 164))=G:=⟨_,rfl⟩;rw[aB]at i n0 n1 r |-;clear aB;have hY:∀b,Zab g d l.heap.size b->∃c T f,G.heap[b]?=some (.cells c T f):=by
  rintro b (rfl|rfl|rfl|⟨o,ho⟩);·obtain⟨c,T,f,h⟩:=aH;exact⟨c,T,f,by rw[i _ (L h)];exact h⟩
  ·exact⟨_,_,_,n0⟩
  ·exact⟨_,_,_,n1⟩
  ·rw[M]at ho;cases ho;obtain⟨c,T,f,h⟩:=aJ;exact⟨c,T,f,by rw[i _ (L h)];exact h⟩
 have C:Zba EnvS X G:=fun b O=>by obtain⟨c,T,f,h1,H⟩:=hB.hX b O;exact⟨c,T,f,by rw[i _ (L h1)];exact h1,H⟩
 have z:(idX X).le (idX ((fun b=>X b∨Zab g d l.heap.size b))):=Zg3 fun b=>.inl;have q:∀a v,l.cell? a=some v->VR EnvS (idX ((fun b=>X b∨Zab g d l.heap.size b))) v v->(sanW EnvS ((fun b=>X b∨Zab g d l.heap.size b)) (Zab g d l.heap.size) G).cell? a=some v:=fun a v D hn=>ZeL (Zdu i D) hn;have I:∀a v,X a.block->l.cell? a=some v->(sanW EnvS ((fun b=>X b∨Zab g d l.heap.size b)) (Zab g d l.heap.size) G).cell? a=some v:=fun a v hx D=>q a v D ((Zg4 hB.hX hx D).mono z);have aA:VR EnvS (idX ((fun b=>X b∨Zab g d l.heap.size b))) (.slice d np wc) (.slice d np wc):=Zju fun b o s e=>by rw[M]at e;cases e;exact .inr (.inr (.inr (.inr ⟨_,M⟩)))
 have Z:(sanW EnvS ((fun b=>X b∨Zab g d l.heap.size b)) (Zab g d l.heap.size) G).cell? ⟨l.heap.size+1,0,none⟩=some (.chan (some t)):=ZeL (by simp[World.cell?,n1]) (.chan _);have aD:WkAt (sanW EnvS ((fun b=>X b∨Zab g d l.heap.size b)) (Zab g d l.heap.size) G) pA eA d np pc en ec wc es ws g l.heap.size (l.heap.size+1) t ((fun b=>X b∨Zab g d l.heap.size b)):={
  R:=hB.R
  E:=Zm9 hB.hX hB.fe (by rw[ZbM,r];omega) I hB.E
  hen:=hB.hen
  W:=fun k x hx=>by obtain⟨b,o,g1,g2,g3⟩:=hL.W k x hx;refine⟨b,o,g1,by rw[ZbM,r];omega,fun j v D=>q _ _ (g3 j v D) ?_⟩;cases j with|zero=>cases D;exact .int _ _|succ j=>cases D
  wn:=hL.wn
  h1:=hB.h1
  h5:=hB.h5
  hws:=hL.hws
  b0:=q _ _ b0 (hB.fp.mono z)
  b1:=q _ _ b1 (hB.fe.mono z)
  l0:=ZeL (by simp[World.cell?,n0]) aA
  c0:=Z
  hX:=Zjl C hY
  fp:=hB.fp.mono z
  fe:=hB.fe.mono z
  fw:=aA
  gsz:=by rw[ZbM,r];have:=hB.gsz;omega
  mix:=hL.mix};have N:=Zty aD;rw[<-ZtD]at N;refine .stop _ _ _ (Zs0 (S:=EnvS) (X:=X) (Y:=Zab g d l.heap.size) (V:=fun v=>v=wkV np es ws) (F:=108) (x:=6) (fn:=Tryz.f108) (body:=ZfL) (cap:=#[.pointer (some ⟨g,0,none⟩),.pointer (some ⟨l.heap.size,0,none⟩),.pointer (some ⟨l.heap.size+1,0,none⟩)]) ZtB rfl (fun _=>rfl) rfl rfl (fun _=>rfl) (by simp) (by kernel_rfl) rfl rfl rfl rfl ?hrun func108 rfl (by kernel_rfl) (by kernel_rfl) ?hcap aG C hY (N.sub Zg0) fun K hK aF=>?_);case hrun=>intro ρ aK w h;simp only[Zae];constructor<;>simp[go_sem,execOp,h]
 case hcap=>
  intro v D;simp only[ZyI,Zyx,ZyN,or_false]at D;rcases D with rfl|rfl|rfl;·exact ZeP (.inr (.inl rfl))
  ·exact ZeP (.inr (.inr (.inl rfl)))
  ·exact ZeP (.inr (.inr (.inr (.inl rfl))))
 have aE:∀k j,(Go.ConcN.upd J K (some ⟨t,fun v=>v=wkV np es ws,[bot prog],ZbL prog 108 t (fun v=>v=wkV np es ws)⟩)) k=some j->ZcD ZaI j:=by
  intro k j hk;rcases upd_some hk with⟨_,rfl⟩|⟨_,hk⟩;·exact Zjj (E:=ZaI) (fn:=Tryz.f108) func108 (by kernel_rfl)
  ·exact hJ k j hk
 refine ZfJ Zd6 rfl aE ?_;have aC:∀b,b<l.heap.size->¬Zab g d l.heap.size b->(sanW EnvS ((fun b=>X b∨Zab g d l.heap.size b)) (Zab g d l.heap.size) G).heap[b]?=l.heap[b]?:=fun b O hn=>by rw[ZfG hn];exact i b O
 have Q:=kk t K (sanW EnvS ((fun b=>X b∨Zab g d l.heap.size b)) (Zab g d l.heap.size) G) aI hK aF (Zjl C hY) q (by rw[ZbM,r]) aC;clear kk N aD;generalize sanW EnvS ((fun b=>X b∨Zab g d l.heap.size b)) (Zab g d l.heap.size) G=l3 at Z Q |-;walk_nrm;refine Zbj ZS ?_;refine Zah ZS ?_;refine Zbi ZS ?_;simp only[ZyT,Zyd,Zyg,Nat.reduceAdd,Zzw,List.range,List.range.loop];refine ZQ ZS rfl rfl (by decide) (by kernel_rfl) (fun y u K m p=>?_);simp only[Zae];go_simp;first|refine m _ _ ?_|refine p _ ?_
 clear m p K y u;try walk_nrm
 refine ZQ ZS rfl rfl (by decide) (by kernel_rfl) (fun y u K m p=>?_);simp only[Zae];go_simp;first|refine m _ _ ?_|refine p _ ?_
 clear m p K y u;try walk_nrm
 refine Zbj ZS ?_;refine ZsC ZS ?_;exact ZsD ZS rfl rfl func107 (fun w=>by simp[results,Tryz.f107,go_sem]) (fun w=>by simp[results,Tryz.f107,go_sem]) Q
end Go.Proofs
namespace Go.Proofs
open Tryz
open Go.RowKit
attribute [local go_sem] Oper.semAt_some def Zjw:Nat->Code->Code|0,c=>c|n+1,.seq _ b=>Zjw n b|_,c=>c
noncomputable def Znd:Code:=Zjw 4 (Tryz.f83.body.getD .skip)
def ZfN(parts a e d f:Int)(g h:Bool):Value:=if (g&&h)=true then .tuple #[.agg #[.int .i64 (parts*a / e),.int .i64 (-(parts*d / f))],.bool true]else .tuple #[.agg #[.int .i64 0,.int .i64 0],.bool false]
theorem ZtF(x0 aI aJ:Value)(parts z t C i:Int)(k1 k2:Bool)(y g h:Nat)(w:World)(h8:w.heap[y]?=some (.cells #[.int .i64 0,.int .i64 0] 94 (0,0)))(D:w.heap[g]?=some (.cells #[.int .i64 z,.int .i64 t,.bool k1] 166 (0,0)))(E:w.heap[h]?=some (.cells #[.int .i64 C,.int .i64 i,.bool k2] 166 (0,0)))(q:k1=true->0<t/\(parts*z).natAbs<=9000000000000000000)(r:k2=true->0<i/\(parts*C).natAbs<=9000000000000000000):Znd.wp prog (bodyPost prog Tryz.f83 fun e w'=>e=.returned (ZfN parts z t C i k1 k2)) ({tmps:=#[x0,undef,undef,.int .i64 parts,undef,undef,undef,undef,.pointer (some ⟨y,0,none⟩),.bool false,undef,undef,undef,.pointer (some ⟨g,0,none⟩),.pointer (some ⟨h,0,none⟩),zu,zu,zu,zu,zu,zu,zu,zu,zu,aI,undef,aJ,zu,zu,zu,zu,zu,zu,zu,zu,zu,zu,zu,zu,zu,zu,zu,zu,zu,zu,zu,zu,zu,zu,zu,zu,zu,zu,zu,zu,zu],defers:=[]}:Act) w:=by
 obtain⟨y0,y1,y2⟩:w.cell? ⟨g,0,none⟩=some (.int .i64 z)/\w.cell? ⟨g,1,none⟩=some (.int .i64 t)/\w.cell? ⟨g,2,none⟩=some (.bool k1):=by refine⟨?_,?_,?_⟩<;>simp[World.cell?,D]
 obtain⟨z0,z1,z2⟩:w.cell? ⟨h,0,none⟩=some (.int .i64 C)/\w.cell? ⟨h,1,none⟩=some (.int .i64 i)/\w.cell? ⟨h,2,none⟩=some (.bool k2):=by refine⟨?_,?_,?_⟩<;>simp[World.cell?,E]
 simp only[Znd,Tryz.f83,ZzA,Zjw];have F:=Zxi h8;have aK:=ZI D;have aL:=ZI E;clear D E h8;have f:∀x,(sizeOf 94).run prog x=.ok 2 x:=fun x=>by kernel_rfl
 have G:∀x,(isAgg 94).run prog x=.ok true x:=fun x=>by kernel_rfl
 cases k1 with
 |false=>clear q r;go_wp2_with ((refine ZaT (by with_reducible rfl) (.tmp 8) (.tmp 35) 94 (by with_reducible rfl) y [.int .i64 0,.int .i64 0] [.int .i64 0,.int .i64 0] 94 rfl rfl (f _) F.out rfl (by decide) ?_;intro w5 d M aB;clear M));refine bodyPost_ret (v:=.tuple #[.agg #[.int .i64 0,.int .i64 0],.bool false]) ?_ rfl rfl;exact ZaB (p:=8) (u:=9) (ad:=⟨y,0,none⟩) (v:=.agg #[.int .i64 0,.int .i64 0]) rfl (by rfl) (Zac (T:=94) (cs:=[.int .i64 0,.int .i64 0]) (G _) (f _) d)|true=>cases k2 with
  |false=>clear q r;go_wp2_with ((refine ZaT (by with_reducible rfl) (.tmp 8) (.tmp 35) 94 (by with_reducible rfl) y [.int .i64 0,.int .i64 0] [.int .i64 0,.int .i64 0] 94 rfl rfl (f _) F.out rfl (by decide) ?_;intro w5 d M aB;clear M));refine bodyPost_ret (v:=.tuple #[.agg #[.int .i64 0,.int .i64 0],.bool false]) ?_ rfl rfl;exact ZaB (p:=8) (u:=9) (ad:=⟨y,0,none⟩) (v:=.agg #[.int .i64 0,.int .i64 0]) rfl (by rfl) (Zac (T:=94) (cs:=[.int .i64 0,.int .i64 0]) (G _) (f _) d)|true=>
   obtain⟨Q,H⟩:=q rfl;obtain⟨R,m⟩:=r rfl;obtain⟨P1,j⟩:∃x,parts*z=x:=⟨_,rfl⟩;obtain⟨N,k⟩:∃x,parts*C=x:=⟨_,rfl⟩;have a:ZfN parts z t C i true true=.tuple #[.agg #[.int .i64 (P1 / t),.int .i64 (-(N / i))],.bool true]:=by rw[<-j,<-k];rfl
   rw[j]at H;rw[k]at m;have Y:=Zxi fun W=>ZkD P1 t W Q H;have Z:=Zxi fun W=>ZkD N i W R m;have aN:IntKind.i64.wrap (parts*z)=P1:=by rw[Zxg _ (by omega),j]
   have aO:IntKind.i64.wrap (parts*C)=N:=by rw[Zxg _ (by omega),k]
   have aA:(N / i).natAbs<=9000000000000000000:=Zzb (by have:=Int.natAbs_ediv_le_natAbs N i;exact this) m;obtain⟨Q1,U⟩:∃x,P1 / t=x:=⟨_,rfl⟩;obtain⟨O,V⟩:∃x,N / i=x:=⟨_,rfl⟩;rw[U]at Y a;rw[V]at Z a aA;have aP:IntKind.i64.wrap (-O)=-O:=by rw[Zxg _ (by omega)]
   rw[a];clear q r H m j k U V Q R a aA;go_wp2;refine ZaR w 20 (by kernel_rfl) (by kernel_rfl) (by go_grown) ?_;intro aF aD;simp only[ZyY,Zy0,ZxB,ZxC];repeat (go_big_quiet_step (first|(go_at_call 63;with_reducible exact Zd (Y.out _))|(go_at_call 63;with_reducible exact Zd (Z.out _))))
   refine wpQuiet_nil ?_;intro w6 I aH aG;clear aF aD;have aC:=Zw I F.out;refine ZaT (by with_reducible rfl) (.tmp 8) (.tmp 55) 94 (by with_reducible rfl) y [.int .i64 Q1,.int .i64 (-O)] [.int .i64 0,.int .i64 0] 94 rfl rfl (f _) aC rfl (by simp[Value.oneCell']) ?_;intro w9 L aE aM;clear aE;go_wp2;refine bodyPost_ret (v:=.tuple #[.agg #[.int .i64 Q1,.int .i64 (-O)],.bool true]) ?_ rfl rfl;exact ZaB (p:=8) (u:=9) (ad:=⟨y,0,none⟩) (v:=.agg #[.int .i64 Q1,.int .i64 (-O)]) rfl (by rfl) (Zac (T:=94) (cs:=[.int .i64 Q1,.int .i64 (-O)]) (G _) (f _) L)
end Go.Proofs
namespace Go.Proofs
open Tryz
open Go.RowKit Go.Twin Go.Conc
variable {S:Env} {X:Nat->Prop} {l l1:World} {es:List En} {J:Nat->Option Job} {K:Nat} {x:Option Job}
attribute [local go_sem] Oper.semAt_some Zdl Zdm Zdn ZcF Zdo Zdp def Zaw(np:Nat)(es:List En)(ws:List Int):Int×Int×Bool:=match solvedL np (exs es) ws with|none=>(0,0,false)|some (m,d,_)=>(dotL ws m,d,true)
theorem Zg5(np:Nat)(es:List En)(ws:List Int):wkV np es ws=.agg #[.int .i64 (Zaw np es ws).1,.int .i64 (Zaw np es ws).2.1,.bool (Zaw np es ws).2.2]:=by unfold wkV Zaw;cases solvedL np (exs es) ws with|none=>rfl|some q=>obtain⟨m,d,p⟩:=q;rfl
def ZbO(np:Nat)(es:List En)(lows ups:List Int)(parts:Int):Value:=if ((Zaw np es lows).2.2&&(Zaw np es (Zal ups)).2.2)=true then .tuple #[.agg #[.int .i64 (parts*(Zaw np es lows).1 / (Zaw np es lows).2.1),.int .i64 (-(parts*(Zaw np es (Zal ups)).1 / (Zaw np es (Zal ups)).2.1))],.bool true] else .tuple #[.agg #[.int .i64 0,.int .i64 0],.bool false]
def Zc0(np:Nat)(es:List En)(ws:List Int)(parts:Int):Prop:=(Zaw np es ws).2.2=true->0<(Zaw np es ws).2.1/\(parts*(Zaw np es ws).1).natAbs<=9000000000000000000
theorem Zjx (a b c d:Value):Frame.enter prog 83 #[a,b,c,d] .normal=(Go.Conc.base 83).at ⟨#[a,b,c,d]++Array.replicate 52 undef,[]⟩ [.code (Tryz.f83.body.getD .skip)]:=by rw[enter_at (fn:=Tryz.f83) (c:=Tryz.f83.body.getD .skip) _ func83 rfl];rfl
theorem ZtG(l:List Int):(Zal l).length=l.length:=by simp[Zal]
theorem ZtH{k:Nat} {l:List Int} (h:ZM k l):ZM k (Zal l):=by intro x a;obtain⟨y,d,rfl⟩:=ZyC.1 a;have:=h y d;omega
theorem ZtI:Zd5.all (ZgY prog)=true:=by kernel_rfl
theorem ZtJ(tab:Code):(EnvS.run tab).Fine:=ZgZ (EnvS.run tab) Zd5 (fun _=>rfl) ZtI (fun h=>(by cases h)) rfl
theorem Zne:Sub EnvS ZaI:=⟨rfl,rfl,rfl,rfl,rfl,fun h=>(by cases h),Zg0.good,fun h=>h⟩
theorem Zjy(a:∀b,b<l.heap.size->l1.heap[b]?=l.heap[b]?)(h:Zba S X l):Zba S X l1:=fun b g=>by obtain⟨c,T,f,d,e⟩:=h b g;exact⟨c,T,f,by rw[a _ (Zwm.1 d).1];exact d,e⟩
theorem Znf{A:Option Addr} (d:l.heap.size<=l1.heap.size)(a:∀b,b<l.heap.size->l1.heap[b]?=l.heap[b]?)(h:Zat l A es):Zat l1 A es:=⟨Zdv d a h.1,fun x e=>Zdv d a (h.2 x e)⟩
theorem Zng(h:Zba EnvS X l) (a:prog.globals.size<=l.heap.size):Self EnvS (fun _=>False) (idX X) l:=⟨Zmy rfl (fun _=>rfl) (fun _=>rfl) h a,fun _ h=>h.elim,Zmw⟩
def ZbP(S:Env)(X:Nat->Prop)(l:List Value):Prop:=∀v∈l,VR S (idX X) v v
theorem ZbP.nil:ZbP S X []:=fun v h=>by cases h
theorem ZbP.cons{v:Value} {l:List Value} (h:VR S (idX X) v v)(k:ZbP S X l):ZbP S X (v::l):=fun u a=>by
 rcases Zyx.1 a with rfl|a;·exact h
 ·exact k u a
theorem ZbP.ar{l:List Value} (h:ZbP S X l):AR S (idX X) l.toArray l.toArray:=Zu fun v a=>h v (by simpa using a)
theorem ZbP.agg{l:List Value} (h:ZbP S X l):VR S (idX X) (.agg l.toArray) (.agg l.toArray):=Zg h.ar
theorem ZtK{P:Program} {fn:Func} {x:Code} {u:Value} {R:Value->World->Prop} {a:Act} {w:World} (h:x.wp P (bodyPost P fn fun e _=>e=.returned u) a w)(m:∀w,R u w):x.wp P (fun e g f=>(e=.ret∨e=.normal)/\g.defers=[]/\∃v,(results fn g.tmps).run P f=.ok v f/\R v f) a w:=wp_mono h fun e g f d=>by cases e with|normal=>obtain⟨i,v,j,k⟩:=d;cases k;exact⟨.inr rfl,i,_,j,m _⟩|ret=>obtain⟨i,v,j,k⟩:=d;cases k;exact⟨.inl rfl,i,_,j,m _⟩|panic c=>exact absurd d.2 (by simp)|outgrown=>cases d|exit id=>exact d.elim|goto id=>exact d.elim
theorem Zjz:Go.ConcN.upd J K x K=x:=Go.ConcN.upd_same _ _ _
theorem ZtL{L:Nat} (h:L≠K):Go.ConcN.upd J K x L=J L:=Go.ConcN.upd_ne _ _ h
theorem ZtM{W0:World} {Post:Value->World->Prop} {sh:Nat->Prop} {bs:List Frame} {pA U z aB:Option Addr} {np pc Y V lc uc:Nat} {lows ups:List Int} {parts:Int} {c:Frame} {ca:List Frame} (hB:BtAt l pA U np pc Y V es X) (hL:LtAt l z np es lows) (hU:At 1 Zc l aB ups) (bK:ups.length=np) (bM:ZM 400 ups) (cF:∀m d p,solvedL np (exs es) (Zal ups)=some (m,d,p)->m.length=np/\ZM 1228800000000000 m)(cE:VR EnvS (idX X) (.slice z np lc) (.slice z np lc)) (bL:VR EnvS (idX X) (.slice aB np uc) (.slice aB np uc)) (aX:∀b,X b->sh b) (bW:∀b,X b->b<l.heap.size)(aO:Zc0 np es lows parts)(aP:Zc0 np es (Zal ups) parts)(bY:bs=c::ca)(k:∀{v:Value} {w':World} {aL:Array Goroutine} {sl':Option (Nat×Nat)} {t':Trace} {q':Nat->Nat},v=ZbO np es lows ups parts->Kept1 W0 w'->aL[0]?=some (G (c.finish v) ca)->Leavers prog t' aL q'->Past (fun _=>False) w'.heap.size t'->Twin.Fin prog Post aL w' sl' t'):LG ZaI (StopK ZaI W0 (fun _=>none) (fun _=>False) none Post sh bs) (Frame.enter prog 83 #[.agg #[.slice pA np pc,.slice U Y V],.slice z np lc,.slice aB np uc,.int .i64 parts] .normal) [ZE prog] l:=by
 rw[Zjx];simp only[Tryz.f83,ZzA];walk_nrm;refine Zah ZS ?_;refine Zbi ZS ?_;simp only[ZyT,Zyd,Zyg,Nat.reduceAdd,Zzw,List.range,List.range.loop];refine ZQ ZS rfl rfl (by decide) (by kernel_rfl) (fun y r K i q=>?_);simp only[Zae];go_simp;first|refine i _ _ ?_|refine q _ ?_
 clear i q K y r;try walk_nrm
 refine ZQ ZS rfl rfl (by decide) (by kernel_rfl) (fun y r K i q=>?_);simp only[Zae];go_simp;first|refine i _ _ ?_|refine q _ ?_
 clear i q K y r;try walk_nrm
 refine ZQ ZS rfl rfl (by decide) (by kernel_rfl) (fun y r K i q=>?_);simp only[Zae];go_simp;first|refine i _ _ ?_|refine q _ ?_
 clear i q K y r;try walk_nrm
 refine Zbj ZS ?_;refine Zah ZS ?_;refine Zbi ZS ?_;simp only[ZyT,Zyd,Zyg,Nat.reduceAdd,Zzw,List.range,List.range.loop];refine ZQ ZS rfl rfl (by decide) (by kernel_rfl) (fun y r K i q=>?_);simp only[Zae];go_simp;first|refine i _ _ ?_|refine q _ ?_
 clear i q K y r;try walk_nrm
 refine ZQ ZS rfl rfl (by decide) (by kernel_rfl) (fun y r K i q=>?_);simp only[Zae];go_simp;first|refine i _ _ ?_|refine q _ ?_
 clear i q K y r;try walk_nrm
 refine Zbj ZS ?_;refine Zah ZS ?_;refine Zbi ZS ?_;simp only[ZyT,Zyd,Zyg,Nat.reduceAdd,Zzw,List.range,List.range.loop];refine ZQ ZS rfl rfl (by decide) (by kernel_rfl) (fun y r K i q=>?_);simp only[Zae];go_simp;first|refine i _ _ ?_|refine q _ ?_
 clear i q K y r;try walk_nrm
 refine ZQ ZS rfl rfl (by decide) (by kernel_rfl) (fun y r K i q=>?_);simp only[Zae];go_simp;first|refine i _ _ ?_|refine q _ ?_
 clear i q K y r;try walk_nrm
 refine ZcE (g:=107) (args:=#[.slice z np lc,.pointer (some ⟨l.heap.size,0,none⟩)]) ZS rfl rfl (by decide) (by kernel_rfl) (fun w=>by simp only[Zae];go_simp) ?_;rw[Zae];have F:∀b,b<l.heap.size->(((l.alloc (.cells #[.slice pA np pc,.slice U Y V] 25)).alloc (.cells #[.int .i64 0,.int .i64 0] 94))).heap[b]?=l.heap[b]?:=fun b hb=>by show ((l.heap.push _).push _)[b]?=_;rw[Zwr (by simp;omega),Zwx hb,Zwk hb]
 have n0:(((l.alloc (.cells #[.slice pA np pc,.slice U Y V] 25)).alloc (.cells #[.int .i64 0,.int .i64 0] 94))).heap[l.heap.size]?=some (.cells #[.slice pA np pc,.slice U Y V] 25 (0,0)):=by show ((l.heap.push _).push _)[l.heap.size]?=_;rw[Zwq,Zwq];simp
 have n8:(((l.alloc (.cells #[.slice pA np pc,.slice U Y V] 25)).alloc (.cells #[.int .i64 0,.int .i64 0] 94))).heap[l.heap.size+1]?=some (.cells #[.int .i64 0,.int .i64 0] 94 (0,0)):=by show ((l.heap.push _).push _)[l.heap.size+1]?=_;rw[Zwq];simp
 have bI:(((l.alloc (.cells #[.slice pA np pc,.slice U Y V] 25)).alloc (.cells #[.int .i64 0,.int .i64 0] 94))).heap.size=l.heap.size+2:=by simp
 obtain⟨l1,bB⟩:∃l1,((l.alloc (.cells #[.slice pA np pc,.slice U Y V] 25)).alloc (.cells #[.int .i64 0,.int .i64 0] 94))=l1:=⟨_,rfl⟩;rw[bB]at F n0 n8 bI |-;clear bB;have aE:l.heap.size<=l1.heap.size:=by omega
 have aD:BtAt l1 pA U np pc Y V es X:={hB with
  E:=Znf aE F hB.E
  hX:=Zjy F hB.hX
  gsz:=by have:=hB.gsz;omega};have bT:LtAt l1 z np es lows:={hL with W:=Zdv aE F hL.W};have c0:l1.cell? ⟨l.heap.size,0,none⟩=some (.slice pA np pc):=by simp[World.cell?,n0]
 have c1:l1.cell? ⟨l.heap.size,1,none⟩=some (.slice U Y V):=by simp[World.cell?,n0]
 refine Znc (J:=fun _=>none) (fun k j h=>by cases h) aD bT aX c0 c1 (by simp) (fun aC K1 l2 cG bR _ aJ L cI aQ=>?_);have D:(idX X).le (idX ((fun b=>X b∨Zab l.heap.size z l1.heap.size b))):=Zg3 fun b=>.inl;rw[Frame.finish_at];walk_nrm;refine ZQ ZS rfl rfl (by decide) (by kernel_rfl) (fun y r K i q=>?_);simp only[Zae];go_simp;first|refine i _ _ ?_|refine q _ ?_
 clear i q K y r;try walk_nrm
 refine ZQ ZS rfl rfl (by decide) (by kernel_rfl) (fun y r K i q=>?_);simp only[Zae];go_simp;first|refine i _ _ ?_|refine q _ ?_
 clear i q K y r;try walk_nrm
 refine ZcE (g:=109) (args:=#[.slice aB np uc]) ZS rfl rfl (by decide) (by kernel_rfl) (fun w=>by simp only[Zae];go_simp) ?_;have bV:At 1 Zc l2 aB ups:=Zjv (X:=X) (fun b o s e=>by subst e;exact ZfM bL) (by omega) (fun a v hx I=>L a v I ((Zg4 aD.hX hx I).mono D)) (Zdv aE F hU);have cD:prog.globals.size<=l2.heap.size:=by have:=aD.gsz;omega
 refine ZmK (E0:=EnvS) (E:=ZaI) (sh:=fun _=>False) (B:=idX ((fun b=>X b∨Zab l.heap.size z l1.heap.size b))) (R:=fun v w=>(∃A c,v=.slice A np c/\w.ownsRow l2.heap.size 3 1 (.slice A np c) np ((Zal ups).map (Value.int .i64)))/\l2.heap.size<=w.heap.size/\∀b,b<l2.heap.size->w.heap[b]?=l2.heap[b]?) ZgW ZgV ZtJ Zne (by kernel_rfl) (Zng aJ cD) (AR.push AR.empty (bL.mono D)) (fun v w t d h=>h) (fun t d=>?hopp) (fun v l3 B3 I _ _ _=>?_);case hopp=>refine(ZtA aB ups np uc (l2.re t d) bV bK (by have:=hB.h5;omega) (fun x hx=>by have:=bM x hx;omega)).mono ?_;rintro e w ⟨⟨A,c,rfl,ho⟩,hb⟩;exact⟨_,rfl,⟨A,c,rfl,ho⟩,hb.size,fun b bX=>hb.block b bX⟩
 obtain⟨⟨Ao,oc,rfl,aK⟩,bE,H⟩:=I;rw[Frame.finish_at];walk_nrm;refine ZcE (g:=107) (args:=#[.slice Ao np oc,.pointer (some ⟨l.heap.size,0,none⟩)]) ZS rfl rfl (by decide) (by kernel_rfl) (fun w=>by simp only[Zae];go_simp) ?_;rw[Zae];have aY:Zba EnvS ((fun b=>X b∨Zab l.heap.size z l1.heap.size b)) l3:=Zjy H aJ;have aU:BtAt l3 pA U np pc Y V es ((fun b=>X b∨Zab l.heap.size z l1.heap.size b)):={hB with
  E:=Znf bE H (Zm9 aD.hX hB.fe (by omega) (fun a v hx I=>L a v I ((Zg4 aD.hX hx I).mono D)) aD.E)
  hX:=aY
  fp:=hB.fp.mono D
  fe:=hB.fe.mono D
  gsz:=by omega};have bU:LtAt l3 Ao np es (Zal ups):={
  W:=ZaE aK
  wn:=(ZtG ups).trans bK
  hws:=ZtH bM
  mix:=cF};have d0:l3.cell? ⟨l.heap.size,0,none⟩=some (.slice pA np pc):=Zdu H (L _ _ c0 (hB.fp.mono D));have d1:l3.cell? ⟨l.heap.size,1,none⟩=some (.slice U Y V):=Zdu H (L _ _ c1 (hB.fe.mono D));have aV:∀k j,(Go.ConcN.upd (fun _=>none) K1 (some ((⟨aC,fun v=>v=wkV np es lows,[bot prog],ZbL prog 108 aC (fun v=>v=wkV np es lows)⟩:Job)))) k=some j->ZcD ZaI j:=by
  intro k j hk;rcases upd_some hk with⟨_,rfl⟩|⟨_,hk⟩;·exact Zjj (E:=ZaI) (fn:=Tryz.f108) func108 (by kernel_rfl)
  ·cases hk
 refine Znc aV aU bU (fun b hb=>hb.imp (aX b) id) d0 d1 (by simp) (fun aF K2 C cH bS aH aZ cA cJ aR=>?_);have bG:K1≠K2:=fun e=>by rw[<-e,Zjz]at aH;cases aH
 have aG:∀k j,(Go.ConcN.upd (Go.ConcN.upd (fun _=>none) K1 (some ((⟨aC,fun v=>v=wkV np es lows,[bot prog],ZbL prog 108 aC (fun v=>v=wkV np es lows)⟩:Job)))) K2 (some ((⟨aF,fun v=>v=wkV np es (Zal ups),[bot prog],ZbL prog 108 aF (fun v=>v=wkV np es (Zal ups))⟩:Job)))) k=some j->ZcD ZaI j:=by
  intro k j hk;rcases upd_some hk with⟨_,rfl⟩|⟨_,hk⟩;·exact Zjj (E:=ZaI) (fn:=Tryz.f108) func108 (by kernel_rfl)
  ·exact aV k j hk
 rw[Frame.finish_at];walk_nrm;refine ZQ ZS rfl rfl (by decide) (by kernel_rfl) (fun y r K i q=>?_);simp only[Zae];go_simp;first|refine i _ _ ?_|refine q _ ?_
 clear i q K y r;try walk_nrm
 refine ZQ ZS rfl rfl (by decide) (by kernel_rfl) (fun y r K i q=>?_);simp only[Zae];go_simp;first|refine i _ _ ?_|refine q _ ?_
 clear i q K y r;try walk_nrm
 refine Zbj ZS ?_;refine Zah ZS ?_;refine Zbi ZS ?_;simp only[ZyT,Zyd,Zyg,Nat.reduceAdd,Zzw,List.range,List.range.loop];refine ZQ ZS rfl rfl (by decide) (by kernel_rfl) (fun y r K i q=>?_);simp only[Zae];go_simp;first|refine i _ _ ?_|refine q _ ?_
 clear i q K y r;try walk_nrm
 refine .stop _ _ _ (ZmQ (zz:=.agg #[.int .i64 0,.int .i64 0,.bool false]) Zd6 rfl aG (by simp) (K:=K1) (j:=(⟨aC,fun v=>v=wkV np es lows,[bot prog],ZbL prog 108 aC (fun v=>v=wkV np es lows)⟩:Job)) bR (by rw[ZtL bG,Zjz]) (.inl (.inr rfl)) (fun v I=>by subst I;rw[Zg5];exact ZeJ 8 _ (Zg2 _ _ _)) rfl rfl (x:=23) rfl (fun ρ w=>?r1) (fun ρ w=>?e1) (fun v1 bN=>?_));case r1=>simp only[Zae];kernel_rfl
 case e1=>simp only[Zae];kernel_rfl
 refine ZfJ Zd6 rfl aG ?_;obtain⟨M,O,i,aM⟩:∃M O i,Zaw np es lows=(M,O,i):=⟨_,_,_,rfl⟩;obtain⟨N,Q,q,aN⟩:∃N Q q,Zaw np es (Zal ups)=(N,Q,q):=⟨_,_,_,rfl⟩;have bO:v1=.agg #[.int .i64 M,.int .i64 O,.bool i]:=by have:v1=wkV np es lows:=bN;rw[this,Zg5,aM]
 clear bN;subst bO;walk_nrm;refine ZQ ZS rfl rfl (by decide) (by kernel_rfl) (fun y r K i q=>?_);simp only[Zae];go_simp;first|refine i _ _ ?_|refine q _ ?_
 clear i q K y r;try walk_nrm
 refine .stop _ _ _ (ZmQ (zz:=.agg #[.int .i64 0,.int .i64 0,.bool false]) Zd6 rfl aG (by simp) (K:=K2) (j:=(⟨aF,fun v=>v=wkV np es (Zal ups),[bot prog],ZbL prog 108 aF (fun v=>v=wkV np es (Zal ups))⟩:Job)) bS (by rw[Zjz]) ⟨.inr rfl,fun e=>bG e.symm⟩ (fun v I=>by subst I;rw[Zg5];exact ZeJ 8 _ (Zg2 _ _ _)) rfl rfl (x:=25) rfl (fun ρ w=>?r2) (fun ρ w=>?e2) (fun v2 bP=>?_));case r2=>simp only[Zae];kernel_rfl
 case e2=>simp only[Zae];kernel_rfl
 have bQ:v2=.agg #[.int .i64 N,.int .i64 Q,.bool q]:=by have:v2=wkV np es (Zal ups):=bP;rw[this,Zg5,aN]
 clear bP;subst bQ;walk_nrm;refine Zs2 (xs':=[.agg #[.slice pA np pc,.slice U Y V],undef,undef,.int .i64 parts,undef,undef,undef,undef,.pointer (some ⟨l.heap.size+1,0,none⟩),.bool false,zu,zu,zu,zu,zu,zu,zu,zu,zu,zu,zu,zu,zu,zu,.agg #[.int .i64 M,.int .i64 O,.bool i],undef,.agg #[.int .i64 N,.int .i64 Q,.bool q],zu,zu,zu,zu,zu,zu,zu,zu,zu,zu,zu,zu,zu,zu,zu,zu,zu,zu,zu,zu,zu,zu,zu,zu,zu,zu,zu,zu,zu]) rfl (by repeat first|exact .nil|refine .keep _ _ _ ?_|refine .drop _ _ _ rfl ?_) ?_;refine ZfJ Zd6 rfl aG ?_;refine ZQ ZS rfl rfl (by decide) (by kernel_rfl) (fun y r K i q=>?_);simp only[Zae];go_simp;first|refine i _ _ ?_|refine q _ ?_
 clear i q K y r;try walk_nrm
 refine ZQ ZS rfl rfl (by decide) (by kernel_rfl) (fun y r K i q=>?_);simp only[Zae];go_simp;first|refine i _ _ ?_|refine q _ ?_
 clear i q K y r;try walk_nrm
 refine ZQ ZS rfl rfl (by decide) (by kernel_rfl) (fun y r K i q=>?_);simp only[Zae];go_simp;first|refine i _ _ ?_|refine q _ ?_
 clear i q K y r;try walk_nrm
 refine ZQ ZS rfl rfl (by decide) (by kernel_rfl) (fun y r K i q=>?_);simp only[Zae];go_simp;first|refine i _ _ ?_|refine q _ ?_
 clear i q K y r;try walk_nrm
 refine Zbj ZS ?_;have aA:∀b,b<C.heap.size->(((C.alloc (.cells #[.int .i64 M,.int .i64 O,.bool i] 166)).alloc (.cells #[.int .i64 N,.int .i64 Q,.bool q] 166))).heap[b]?=C.heap[b]?:=fun b hb=>by show ((C.heap.push _).push _)[b]?=_;rw[Zwr (by simp;omega),Zwx hb,Zwk hb]
 have aS:(((C.alloc (.cells #[.int .i64 M,.int .i64 O,.bool i] 166)).alloc (.cells #[.int .i64 N,.int .i64 Q,.bool q] 166))).heap[C.heap.size]?=some (.cells #[.int .i64 M,.int .i64 O,.bool i] 166 (0,0)):=by show ((C.heap.push _).push _)[C.heap.size]?=_;rw[Zwq,Zwq];simp
 have aT:(((C.alloc (.cells #[.int .i64 M,.int .i64 O,.bool i] 166)).alloc (.cells #[.int .i64 N,.int .i64 Q,.bool q] 166))).heap[C.heap.size+1]?=some (.cells #[.int .i64 N,.int .i64 Q,.bool q] 166 (0,0)):=by show ((C.heap.push _).push _)[C.heap.size+1]?=_;rw[Zwq];simp
 have bJ:(((C.alloc (.cells #[.int .i64 M,.int .i64 O,.bool i] 166)).alloc (.cells #[.int .i64 N,.int .i64 Q,.bool q] 166))).heap.size=C.heap.size+2:=by simp
 obtain⟨l5,bD⟩:∃l5,((C.alloc (.cells #[.int .i64 M,.int .i64 O,.bool i] 166)).alloc (.cells #[.int .i64 N,.int .i64 Q,.bool q] 166))=l5:=⟨_,rfl⟩;rw[bD]at aA aS aT bJ |-;clear bD;have bF:∀o,z=some ⟨l.heap.size+1,o,none⟩->False:=fun o e=>by subst e;have:=bW _ (ZfM cE);omega
 have m2:l2.heap[l.heap.size+1]?=some (.cells #[.int .i64 0,.int .i64 0] 94 (0,0)):=by
  rw[aQ _ (by omega) ?_];·exact n8
  ·rintro(h|h|h|⟨o,h⟩);·omega
   ·omega
   ·omega
   ·exact bF o h
 have m3:l3.heap[l.heap.size+1]?=some (.cells #[.int .i64 0,.int .i64 0] 94 (0,0)):=by rw[H _ (by omega)];exact m2
 have m4:C.heap[l.heap.size+1]?=some (.cells #[.int .i64 0,.int .i64 0] 94 (0,0)):=by
  rw[aR _ (by omega) ?_];·exact m3
  ·rintro(h|h|h|⟨o,h⟩);·omega
   ·omega
   ·omega
   ·rcases aK.2 with⟨Z,_⟩|⟨g,cK,cL,Z,h2,_⟩;·rw[h]at Z;cases Z
    ·rw[h]at Z;cases Z;omega
 have m5:l5.heap[l.heap.size+1]?=some (.cells #[.int .i64 0,.int .i64 0] 94 (0,0)):=by rw[aA _ (by omega)];exact m4
 have aW:(idX ((fun b=>((fun b=>X b∨Zab l.heap.size z l1.heap.size b)) b∨Zab l.heap.size Ao l3.heap.size b))).le (idX ((fun b=>((fun b=>((fun b=>X b∨Zab l.heap.size z l1.heap.size b)) b∨Zab l.heap.size Ao l3.heap.size b)) b∨(b=l.heap.size+1∨b=C.heap.size∨b=C.heap.size+1)))):=Zg3 fun b=>.inl;have aI:(idX X).le (idX ((fun b=>((fun b=>((fun b=>X b∨Zab l.heap.size z l1.heap.size b)) b∨Zab l.heap.size Ao l3.heap.size b)) b∨(b=l.heap.size+1∨b=C.heap.size∨b=C.heap.size+1)))):=Zg3 fun b h=>.inl (.inl (.inl h));have bA:Zba EnvS ((fun b=>((fun b=>((fun b=>X b∨Zab l.heap.size z l1.heap.size b)) b∨Zab l.heap.size Ao l3.heap.size b)) b∨(b=l.heap.size+1∨b=C.heap.size∨b=C.heap.size+1))) l5:=by
  rintro b (hb|rfl|rfl|rfl);·obtain⟨c,T,f,Z,h2⟩:=Zjy aA aZ b hb;exact⟨c,T,f,Z,fun v I=>(h2 v I).mono aW⟩
  ·exact⟨_,_,_,m5,fun v I=>by simp only[ZyI,Zyx,ZyN,or_false]at I;rcases I with rfl|rfl<;>exact .int _ _⟩
  ·exact⟨_,_,_,aS,fun v I=>by simp only[ZyI,Zyx,ZyN,or_false]at I;rcases I with rfl|rfl|rfl<;>first|exact .int _ _|exact .bool _⟩
  ·exact⟨_,_,_,aT,fun v I=>by simp only[ZyI,Zyx,ZyN,or_false]at I;rcases I with rfl|rfl|rfl<;>first|exact .int _ _|exact .bool _⟩
 have bZ:ZfN parts M O N Q i q=ZbO np es lows ups parts:=by unfold ZfN ZbO;rw[aM,aN]
 unfold Zc0 at aO aP;rw[aM]at aO;rw[aN]at aP;refine Zjm (E0:=EnvS) (E:=ZaI) (fn:=Tryz.f83) (R:=fun v w=>v=ZbO np es lows ups parts) ZgW ZgV Zne (Zng bA (by have:=aU.gsz;omega)) ?ha rfl (by kernel_rfl) func83 (fun t d=>?tail) (fun f l' bH cC=>.stop _ _ _ (Zs9 (R':=fun v=>v=ZbO np es lows ups parts) (by rw[cC];kernel_rfl) bH (fun x _ h=>?hu) (fun v t d h=>⟨?hsol,h⟩) bY k));case ha=>refine ZbP.ar (l:=[.agg #[.slice pA np pc,.slice U Y V],undef,undef,.int .i64 parts,undef,undef,undef,undef,.pointer (some ⟨l.heap.size+1,0,none⟩),.bool false,undef,undef,undef,.pointer (some ⟨C.heap.size,0,none⟩),.pointer (some ⟨C.heap.size+1,0,none⟩),zu,zu,zu,zu,zu,zu,zu,zu,zu,.agg #[.int .i64 M,.int .i64 O,.bool i],undef,.agg #[.int .i64 N,.int .i64 Q,.bool q],zu,zu,zu,zu,zu,zu,zu,zu,zu,zu,zu,zu,zu,zu,zu,zu,zu,zu,zu,zu,zu,zu,zu,zu,zu,zu,zu,zu,zu]) ?_;refine .cons (ZbP.agg (l:=[.slice pA np pc,.slice U Y V]) (.cons (hB.fp.mono aI) (.cons (hB.fe.mono aI) .nil))) ?_;repeat first
   |exact .nil|refine .cons undefR ?_|refine .cons (.int _ _) ?_|refine .cons (.bool _) ?_|refine .cons (ZeP (.inr (.inl rfl))) ?_|refine .cons (ZeP (.inr (.inr (.inl rfl)))) ?_|refine .cons (ZeP (.inr (.inr (.inr rfl)))) ?_|refine .cons (ZbP.agg (l:=[.int .i64 M,.int .i64 O,.bool i]) (.cons (.int _ _) (.cons (.int _ _) (.cons (.bool _) .nil)))) ?_|refine .cons (ZbP.agg (l:=[.int .i64 N,.int .i64 Q,.bool q]) (.cons (.int _ _) (.cons (.int _ _) (.cons (.bool _) .nil)))) ?_
 case tail=>exact ZtK (u:=ZfN parts M O N Q i q) (ZtF _ _ _ parts M O N Q i q (l.heap.size+1) C.heap.size (C.heap.size+1) (l5.re t d) m5 aS aT aO aP) fun w=>bZ
 case hu=>
  obtain⟨⟨Z,h2⟩,h3⟩:=h;rcases Z with(Z|Z)|Z;·exact Z
  ·exact h2 Z
  ·exact h3 Z
 case hsol=>have h':v=ZbO np es lows ups parts:=h;subst h';unfold ZbO;split<;>simp[Za3]
section
variable {E1:Env} {sh:Nat->Prop} {B:Blk} {bs':List Frame} {l w:World}
theorem Znh{a:Addr} {v:Value} (h:l.cell? a=some v):∃c T f,l.heap[a.block]?=some (.cells c T f):=by unfold World.cell? at h;cases d:l.heap[a.block]? with|none=>rw[d]at h;cases h|some ob=>rw[d]at h;cases ob with|cells c T f=>exact⟨c,T,f,rfl⟩|_=>cases h
theorem ZtN(hw:WR E1 ⟨sh,fun _=>False⟩ B l w) {b d o:Nat} (hb:B b d) {v:Value} (hv:l.cell? ⟨b,o,none⟩=some v):∃a,VR E1 B v a:=by obtain⟨a,_,h⟩:=ZiK hw (.mk b d o none hb) hv;exact⟨a,h⟩
theorem ZtO{E:Env} {b o n c:Nat} {s:Option Nat} {v:Value} (h:VR E B (.slice (some ⟨b,o,s⟩) n c) v)(hz:E.z0=false):∃a,B b a:=by cases h with
 |slice _ _ _ _ ha=>cases ha with|mk _ b4 _ _ hb4=>exact⟨b4,hb4⟩
 |slice0 _ h=>rw[hz]at h;cases h
theorem ZtP(u:E1.z0=false) (hw:WR E1 ⟨sh,fun _=>False⟩ B l w) {A:Option Addr} {n c:Nat} {es:List En} (hf:VR EnvS (idX (Z5 B l)) (.slice A n c) (.slice A n c)) (hne:∀x∈es,x.co≠[]) (h:Zat l A es):Zat (sanW EnvS (Z5 B l) (Z5 B l) l) A es:=by
 have F:∀b o s,A=some ⟨b,o,s⟩->Z5 B l b:=fun b o s e=>by subst e;exact ZfM hf
 have q:∀x∈es,∀b o s,x.A=some ⟨b,o,s⟩->Z5 B l b:=by
  intro x d b o s e;obtain⟨k,r⟩:=Zx2 d;obtain⟨I,N,f,m,g⟩:=h.1 k x r;have E:=g 1 _ rfl;obtain⟨⟨L,p⟩,_⟩:=F _ _ _ f;obtain⟨O,i⟩:=ZtN hw p E;rw[e]at i;have t:0<x.co.length:=by have:=hne x d;cases G:x.co with
   |nil=>exact absurd G this|cons _ _=>simp
  obtain⟨M,o3,y,_,C⟩:=h.2 x d 0 _ (ZxX t);have D:=Znh (C 0 _ rfl);rw[e]at y;cases y;exact⟨ZtO i u,D⟩
 refine⟨fun k x d=>?_,fun x d k z H=>?_⟩;·obtain⟨b,o,f,m,g⟩:=h.1 k x d;refine⟨b,o,f,by rw[ZbM];exact m,fun j v a=>ZeL (g j v a) ?_⟩;match j,a with
  |0,a=>cases a;exact .string _|1,a=>cases a;exact Zju (q x (ZyD d))|2,a=>cases a;exact .int _ _|j+3,a=>cases a
 ·obtain⟨b,o,f,m,g⟩:=h.2 x d k z H;refine⟨b,o,f,by rw[ZbM];exact m,fun j v a=>ZeL (g j v a) ?_⟩;cases j with|zero=>cases a;exact .int _ _|succ j=>cases a
theorem Zni{A:Option Addr} {ws:List Int} {X Y:Nat->Prop} (h:At 1 Zc l A ws):At 1 Zc (sanW EnvS X Y l) A ws:=fun k z g=>by obtain⟨b,o,d,e,f⟩:=h k z g;refine⟨b,o,d,by rw[ZbM];exact e,fun j v a=>ZeL (f j v a) ?_⟩;cases j with|zero=>cases a;exact .int _ _|succ j=>cases a
theorem Znj(N:E1.P=prog)(aA:∀f,E1.dfr f=false)(G:E1.z0=false) {D i e g:Option Addr} {np F r C lc uc:Nat} {es:List En} {lows ups:List Int} {parts:Int} {fa:Frame} {cs cb:List Frame} (hR:RightE es np)(hE:Zat l i es)(hen:es.length=r)(h1:1<=np)(h5:np<=5)(hne:∀x∈es,x.co≠[])(hL:LtAt l e np es lows)(hU:At 1 Zc l g ups)(aG:ups.length=np)(aH:ZM 400 ups)(aF:∀m d p,solvedL np (exs es) (Zal ups)=some (m,d,p)->m.length=np/\ZM 1228800000000000 m) (aC:Zc0 np es lows parts) (aD:Zc0 np es (Zal ups) parts)(I:VR EnvS (idX (Z5 B l)) (.slice D np F) (.slice D np F)) (z:VR EnvS (idX (Z5 B l)) (.slice i r C) (.slice i r C)) (H:VR EnvS (idX (Z5 B l)) (.slice e np lc) (.slice e np lc)) (L:VR EnvS (idX (Z5 B l)) (.slice g np uc) (.slice g np uc))(h:Rel E1 sh bs' B (Frame.enter E1.P 83 #[.agg #[.slice D np F,.slice i r C],.slice e np lc,.slice g np uc,.int .i64 parts] .normal) cs l fa cb w):Zdq prog fa w fun v=>v=ZbO np es lows ups parts:=by
 intro Post c M gs sl t q h0 U V kk;have y:∀v∈(#[.agg #[.slice D np F,.slice i r C],.slice e np lc,.slice g np uc,.int .i64 parts]:Array Value),VR EnvS (idX (Z5 B l)) v v:=by
  intro v O;simp only[ZyI,Zyx,ZyN,or_false]at O;rcases O with rfl|rfl|rfl|rfl;·exact ZbP.agg (l:=[.slice D np F,.slice i r C]) (.cons I (.cons z .nil))
  ·exact H
  ·exact L
  ·exact .int _ _
 obtain⟨Z,hrel⟩:=ZsR (S:=EnvS) (E2:=ZaI) (fn:=Tryz.f83) (body:=Tryz.f83.body.getD .skip) (by rw[N];rfl) ⟨rfl,G,Zg0.good⟩ rfl rfl rfl (fun _=>rfl) (fun _=>rfl) aA (c::M) (by rw[N];exact func83) rfl (by kernel_rfl) y h;rw[N]at hrel;have aE:∀b,Z5 B l b->b<l.heap.size:=fun b u=>by obtain⟨_,_,_,_,hc⟩:=u;exact(Zwm.1 hc).1
 have hg:prog.globals.size<=l.heap.size:=by have:=h.wr.gsz.1;rw[N]at this;exact this
 have Q:BtAt (sanW EnvS (Z5 B l) (Z5 B l) l) D i np F r C es (Z5 B l):={R:=hR,E:=ZtP G h.wr z hne hE,hen:=hen,h1:=h1,h5:=h5,hX:=Z,fp:=I,fe:=z,gsz:=by rw[ZbM];exact hg};have T:LtAt (sanW EnvS (Z5 B l) (Z5 B l) l) e np es lows:={hL with W:=Zni hL.W};have Y:=ZtM (W0:=w) (Post:=Post) (sh:=Z5 B l) (bs:=c::M) (lc:=lc) (uc:=uc) (parts:=parts) Q T (Zni hU) aG aH aF H L (fun b u=>u) (fun b u=>by rw[ZbM];exact aE b u) aC aD rfl fun O hK a b d=>kk O hK a b d;have aB:=ZfJ Zd6 rfl (fun k j hj=>by cases hj) Y ⟨Z5 B l,c::M,B.on (Z5 B l),_,[ZE prog],sanW EnvS (Z5 B l) (Z5 B l) l,fun _ _ _=>True⟩ rfl rfl rfl rfl ⟨l.tape,l.drawn,rfl⟩;exact ZsA (E:=ZaI) (n:=⟨Z5 B l,c::M,B.on (Z5 B l),_,[ZE prog],sanW EnvS (Z5 B l) (Z5 B l) l,fun _ _ _=>True⟩) h0 U V hrel (fun b x (u:B.on (Z5 B l) b x)=>u.2) aB.go
end
variable {w:World}
def ZeQ:List Nat:=[0,5,1,2,6,7]
structure GlobOk (w:World):Prop where
 ints:∀g,ZeQ.contains g=true->∃c T f,w.heap[g]?=some (.cells c T f)/\∀v∈c,∃k n,v=.int k n
 size:prog.globals.size<=w.heap.size
 many:3<w.heap.size/\4<w.heap.size
theorem GlobOk.kept{w':World} (h:GlobOk w)(a:Kept1 w w'):GlobOk w':=⟨fun g i=>by obtain⟨c,T,f,d,e⟩:=h.ints g i;exact⟨c,T,f,by rw[a.heap _ (Zwm.1 d).1];exact d,e⟩,Zzb h.size a.size,Zzf h.many.1 a.size,Zzf h.many.2 a.size⟩
def Z7(w:World):World:={w with heap:=(w.heap.setIfInBounds 3 (.deferred none)).setIfInBounds 4 (.deferred none)}
theorem Zc1(w:World):(Z7 w).heap.size=w.heap.size:=by simp[Z7]
theorem ZeR(w:World) {b:Nat} (h5:b≠3)(h6:b≠4):(Z7 w).heap[b]?=w.heap[b]?:=by unfold Z7;rw[Zwu (fun e=>h6 e.symm),Zwu (fun e=>h5 e.symm)]
def awB:Blk:=fun b x=>b=x/\ZeQ.contains b=true
theorem ZeS{g:Nat} (h:ZeQ.contains g=true):g≠3/\g≠4:=by constructor<;>rintro rfl<;>exact absurd h (by decide)
theorem Znk{E:Env} (G:E.P=prog)(F:∀g,E.glob g=ZeQ.contains g)(D:∀g,E.dark g=[3,4].contains g) {a:Nat->Prop} {v:World} (h:GlobOk w)(hv:v.heap=w.heap∨v=Z7 w)(Q:∀i q,a ((Z7 w).drawn+i)->(Z7 w).tape ((Z7 w).drawn+i) q=v.tape (v.drawn+i) q):WR E ⟨fun _=>False,a⟩ awB (Z7 w) v:=by
 have j:v.heap.size=w.heap.size:=by
  rcases hv with h|rfl;·rw[h]
  ·exact Zc1 w
 have p:∀b,b≠3->b≠4->v.heap[b]?=w.heap[b]?:=by
  rcases hv with h|rfl;·intro b _ _;rw[h]
  ·exact fun b N O=>ZeR w N O
 have r:∀b,ZeQ.contains b=true->b<w.heap.size:=fun b e=>by obtain⟨c,T,f,z,_⟩:=h.ints b e;exact(Zwm.1 z).1
 refine⟨fun b d R x y=>x.1.symm.trans y.1,fun b c d x y=>x.1.trans y.1.symm,fun b d x=>?_,fun b d x _=>?_,fun b d _ x=>x.elim,Q,fun g C=>⟨rfl,by rw[<-F];exact C⟩,fun b d x=>by rw[x.1],⟨by rw[G,Zc1];exact h.size,by rw[G,j];exact h.size⟩,fun _=>⟨fun _ x=>x,by rw[Zc1,j],fun b d x=>x.1⟩,fun g C=>?_⟩;·obtain⟨rfl,e⟩:=x;rw[Zc1,j];exact⟨r b e,r b e⟩
 ·obtain⟨rfl,e⟩:=x;obtain⟨c,T,f,z,M⟩:=h.ints b e;obtain⟨I,L⟩:=ZeS e;refine⟨_,_,(ZeR w I L).trans z,(p b I L).trans z,.cells c c T f ⟨rfl,fun i u V H t=>?_⟩⟩;rw[H]at t;cases t;obtain⟨k,n,rfl⟩:=M u (ZwB H);exact .int k n
 ·rw[D]at C;have m:g=3∨g=4:=by simpa using C
  have U:=h.many;refine⟨?_,fun d x=>?_⟩
  ·unfold Z7;rcases m with rfl|rfl;·rw[Zwu (by decide),Zwv (by omega)]
   ·rw[Zwv (by simp;omega)]
  ·have:=ZeS x.2;rcases m with rfl|rfl;·exact this.1 rfl
   ·exact this.2 rfl
theorem ZtQ(h:GlobOk w):Self ZL (fun _=>False) awB (Z7 w):=⟨Znk (E:=ZL) rfl (fun _=>rfl) (fun _=>rfl) h (.inr rfl) (fun _ _ _=>rfl),fun _ x=>x.elim,fun b a x=>x.1⟩
theorem Znl:Frame.enter prog 8 #[] .normal=(Go.Conc.base 8).at ⟨Array.replicate 84 undef,[]⟩ [.code (Tryz.f8.body.getD .skip)]:=by
 rw[enter_at (fn:=Tryz.f8) (c:=Tryz.f8.body.getD .skip) _ func8 rfl];have e:Tryz.f8.ntmps=84:=by kernel_rfl
 rw[e];simp
theorem ZtR{u:Value} (m:GlobOk w)(hL:∀(Post:Value->World->Prop)(c:Frame)(ca:List Frame),(∀f l',Ret prog (fun v _=>v=u) f [ZE prog] l'->f.fn=8->(∀x,x<(Z7 w).heap.size->l'.heap[x]?=(Z7 w).heap[x]?)->StopG ZO Post w (Z7 w) awB (fun _=>False) (c::ca) f [ZE prog] l')->LG ZO (StopG ZO Post w (Z7 w) awB (fun _=>False) (c::ca)) (Frame.enter prog 8 #[] .normal) [ZE prog] (Z7 w)) (hu:Za3 8 u=true):Zdq prog (Frame.enter prog 8 #[] .normal) w fun v=>v=u:=by
 intro Post c ca G H t q p j y D;have k:=hL Post c ca fun f l' i z g=>Ztb (E:=ZO) (u:=u) rfl i (fun v t d h=>h) hu g fun C a b d=>D rfl C a b d;refine ZgQ (E:=ZO) (l0:=Z7 w) Zjs (fun b x e=>.inr ⟨e.1,?_,?_,rfl,rfl⟩) k p j y (B:=awB) ⟨?_,Znk (E:=ZO) rfl (fun _=>rfl) (fun _=>rfl) m (.inl rfl) (fun _ _ x=>x.elim),fun _ x=>x.elim⟩ ⟨Kept1.refl w,fun b x e _=>e⟩;·obtain⟨rfl,e⟩:=e;obtain⟨F,T,f,r,_⟩:=m.ints b e;rw[Zc1];exact(Zwm.1 r).1
 ·obtain⟨rfl,e⟩:=e;exact ZeR w (ZeS e).1 (ZeS e).2
 ·rw[Znl];exact .last _ _ (ZeM (AR.replicate _ undefR) rfl (.cons _ _ _ _ (.code _ ⟨by kernel_rfl,fun h=>(by cases h)⟩) .nil)) rfl
end Go.Proofs
namespace Go.Proofs
open Go.RowKit
section
variable {P:Program}
def spG(ops:Array Oper)(sp:List Nat):Bool:=sp.all fun j=>match ops[j]? with|some _=>true|none=>false
theorem Zgo{Q:Exit->Act->World->Prop} {a0:Act} {w:World} {l:List Oper} (w0:World)(C:World->Prop)(sp:List Nat)(F:Nat->Gh->Value)(J:(Nat->Bool)->(Nat->Gh)->World->Prop)(y:(Nat->Gh)->Act)(hB:Zay l.toArray=true)(hB':∀g,Zay (mixL sp F g 0 l).toArray=true)(hS:Region.noSelect l.toArray=true)(hN:spG l.toArray sp=true)(hC0:C w)(hCs:∀x N,C x->Below x.heap.size x N->C N)(hCw:∀x,C x->Below w0.heap.size w0 x)(h0:∀L,(∀j∈sp,L j=false)->J L (fun _=>Gh.zero) w)(hst:∀L L' g x N,(∀j∈sp,L' j=L j)->J L g x->Below x.heap.size x N->J L' g N)(hq:∀g u,C u->(∀(x:Grew u)(b o:Nat),b<u.heap.size->x.val.cell? ⟨b,o,none⟩=u.cell? ⟨b,o,none⟩)->Hid (∀x:Grew u,Below w0.heap.size w0 x.val)->Hid (∀x:Grew u,C x.val)->wpQuiet P (mixL sp F g 0 l).toArray (fun w'=>∃x:Grew u,w'=x.val) (fun a'=>a'=y g) (mixL sp F g 0 l) a0)(hind:∀j∈sp,∀g h,ZaN (ZaS l.toArray j 0 l []) 0 (y g).tmps.toList=ZaN (ZaS l.toArray j 0 l []) 0 (y (upd g j h)).tmps.toList)(hwa:∀g,∀j∈sp,∀o,l.toArray[j]?=some o->Region.wanted o (yielded l.toArray (y g).tmps)=true)(hsp:∀j∈sp,∀o,l[j]?=some o->∀(L:Nat->Bool)(g:Nat->Gh)(x:World),J L g x->C x->Below w0.heap.size w0 x->L j=false->(∀e∈o.after,Region.binds .any e=true->L e.on=true)->(∀(i:Nat)(o:Oper),l[i]?=some o->L i=true->∀e∈o.after,Region.binds .any e=true->L e.on=true)->Zci P (fun v N=>C N/\((o.dst=none/\J (Zby L j) g N)∨∃h,v=F j h/\J (Zby L j) (upd g j h) N)) ((execOp (y g).eval o).run P x))(hend:∀g x,J (fun _=>true) g x->C x->Below w0.heap.size w0 x->Q .normal (y g) x):wpAny P .any l.toArray Q l.toArray.size (Array.replicate l.toArray.size false) a0 {w with drawn:=w.drawn+1}:=by
 have H:=Zej hB;have H':=fun g=>Zej (hB' g);have Y:=Region.noSelect_spec hS;have I:∀g (j:Nat),(mixL sp F g 0 l).toArray[j]?=(l.toArray[j]?).map fun o=>if sp.contains j then yieldsC (F j (g j)) o else o:=fun g j=>by have:=ZcL sp F g l 0 j;simpa using this
 have aH:∀(g:Nat->Gh)(j:Nat)(o:Oper),(if sp.contains j=true then yieldsC (F j (g j)) o else o).dst=o.dst:=fun g j o=>by split<;>rfl
 have bH:∀(g:Nat->Gh)(t:Array Value)(k:Nat),yielded (mixL sp F g 0 l).toArray t k=yielded l.toArray t k:=fun g t k=>by unfold yielded;rw[I];cases l.toArray[k]? with
  |none=>rfl|some o=>simp only[ZzD,Zzz,aH]
 have aW:∀(g:Nat->Gh)(o:Oper)(t:Array Value),Region.wanted o (yielded (mixL sp F g 0 l).toArray t)=Region.wanted o (yielded l.toArray t):=fun g o t=>by have:yielded (mixL sp F g 0 l).toArray t=yielded l.toArray t:=funext (bH g t);rw[this]
 have aR:∀(g:Nat->Gh)(j:Nat)(o:Oper) cs b,(mixL sp F g 0 l).toArray[j]?=some o->o.op≠.select cs b:=fun g j o cs b p=>by rw[I]at p;cases q:l.toArray[j]? with
  |none=>rw[q]at p;cases p|some o'=>
   rw[q]at p;simp only[ZzD,ZzF]at p;subst p;split;·simp[yieldsC]
   ·exact Y j o' cs b q
 have M:=fun g u hu=>Zh0 (H' g) (aR g) (mixL sp F g 0 l) 0 a0 (fun j=>by simp) (hq g u hu (fun x=>x.cell) (fun x=>hCw _ (hCs _ _ hu x.ok)) (fun x=>hCs _ _ hu x.ok));have O:∀g,a0.tmps.size=(y g).tmps.size:=fun g=>(M g w hC0).2.1;have aM:∀g,a0.defers=(y g).defers:=fun g=>(M g w hC0).2.2.1;have bE:∀(g:Nat->Gh)(s:Nat),(∀(j:Nat)(T:Oper),l.toArray[j]?=some T->T.dst≠some s)->a0.tmps[s]?=(y g).tmps[s]?:=fun g s V=>(M g w hC0).2.2.2 s fun j T _ q U=>by rw[I]at q;cases aO:l.toArray[j]? with|none=>rw[aO]at q;cases q|some o'=>rw[aO]at q;simp only[ZzD,ZzF]at q;exact V j o' aO (by rw[<-U,<-q];exact(aH g j o').symm)
 have aE:∀(g:Nat->Gh)(i:Nat)(o:Oper),i∉sp->l.toArray[i]?=some o->∀u,C u->∃v,YieldsIn P l.toArray (above u) o v (y g)/\∀s,o.dst=some s->s<(y g).tmps.size->(y g).tmps[s]?=some v:=by
  intro g i o hi p u hu;have hc:sp.contains i=false:=by simpa using hi
  have D:(mixL sp F g 0 l).toArray[i]?=some o:=by rw[I,p];simp[hi]
  obtain⟨v,hy,hv⟩:=(M g u hu).1 i o (Zzx _) D;refine⟨v,?_,hv⟩;rw[Zky];unfold YieldsIn at*;rwa [aW]at hy
 have aU:∀(g:Nat->Gh)(j:Nat)(o:Oper)(d:Nat),j∈sp->l.toArray[j]?=some o->o.dst=some d->d<(y g).tmps.size->(y g).tmps[d]?=some (F j (g j)):=by
  intro g j o d q p U r;have hc:sp.contains j=true:=by simpa using q
  have D:(mixL sp F g 0 l).toArray[j]?=some (yieldsC (F j (g j)) o):=by rw[I,p];simp[q]
  obtain⟨v,hy,hv⟩:=(M g w hC0).1 j _ (Zzx _) D;have:=hv d U r;rw[this];rcases hy with⟨_,h2⟩|⟨h1,_⟩
  ·have h3:=h2 w ⟨⟨w,ZwJ _ _⟩,rfl⟩;unfold Oper.quietAt at h3;have h4:(execOp (y g).eval (yieldsC (F j (g j)) o)).run P w=.ok (.value (F j (g j))) w:=by unfold execOp yieldsC;rfl
   rw[h4]at h3;simp only[Oper.quietUpon]at h3;rw[h3.2]
  ·rw[aW g,show Region.wanted (yieldsC (F j (g j)) o) (yielded l.toArray (y g).tmps)=Region.wanted o (yielded l.toArray (y g).tmps)from rfl,hwa g j q o p]at h1;cases h1
 have aL:∀(L:Nat->Bool),(∀(i:Nat)(o:Oper),l.toArray[i]?=some o->L i=true->∀e∈o.after,Region.binds .any e=true->L e.on=true)->∀j,L j=false->∀d∈ZaS l.toArray j 0 l [],∃(i:Nat)(o:Oper),l.toArray[i]?=some o/\o.dst=some d/\L i=false:=by
  intro L W j q;refine Zh1 (G:=fun d=>∃(i:Nat) (o:Oper),l.toArray[i]?=some o/\o.dst=some d/\L i=false) ?_ l 0 [] (fun k=>by simp) (fun d U=>by simp at U);intro i o d p U bD;refine⟨i,o,p,U,?_⟩;rcases bD with rfl|⟨s,V,i',o',D,bA,Z⟩;·exact q
  ·obtain⟨_,e,he,hb,aD⟩:=H.look i o s i' o' p V D bA;cases aY:L i with
   |false=>rfl|true=>have:=W i o p aY e he hb;rw[aD,Z]at this;cases this
 have aI:∀(m:Array Bool)(a:Act)(x:World),m.size=l.toArray.size->Zc8 l.toArray C J y m a x->Region.ready .any l.toArray m=[]->Q .normal a x:=by
  rintro m a x hz ⟨hb,-,g,z,hJ⟩ hr;have hu:=Zem H hz hr;rw[Zkx z hu];have:(fun j=>m.getD j true)=fun _=>true:=funext fun j=>by
   by_cases q:j<l.toArray.size;·exact hu j q
   ·simp[Zwl (show m.size<=j by omega)]
  rw[this]at hJ;exact hend g x hJ hb (hCw _ hb)
 have aS:∀(m:Array Bool)(a:Act)(x:World)(i:Nat),i∈Region.ready .any l.toArray m->Zc8 l.toArray C J y m a x->wpOp P l.toArray Q i (fun a' N=>Zc8 l.toArray C J y (m.setIfInBounds i true) a' N) a x:=by
  rintro m a x i hi ⟨hb,W,g,z,hJ⟩;obtain⟨R,o,p,aF⟩:=mem_ready.1 hi;have aP:=Zkv H z p hi;have aG:∀(i':Nat)(o':Oper),l.toArray[i']?=some o'->(m.setIfInBounds i true).getD i' true=true->∀e∈o'.after,Region.binds .any e=true->(m.setIfInBounds i true).getD e.on true=true:=by
   intro i' o' D Z e he aA;have bI:m.getD e.on true=true:=by
    by_cases aT:i=i';·subst aT;obtain rfl:o=o':=ZzE (p.symm.trans D);exact ZdL (aF e he aA)
    ·rw[getD_set_ne true aT]at Z;exact W i' o' D Z e he aA
   by_cases aD:i=e.on;·rw[aD,Zf4]
   ·rw[getD_set_ne true aD];exact bI
  by_cases E:i∈sp
  ·have U:=hsp i E o (by simpa using p) _ g x hJ hb (hCw _ hb) R (fun e he aA=>ZdL (aF e he aA)) (fun i' o' D=>W i' o' (by simpa using D));rw[<-ZhX (Y i o · · p) aP]at U;unfold wpOp;simp only[p];have bF:Region.wanted o (yielded l.toArray a.tmps)=true:=by rw[Zks aP];exact hwa g i E o p
   rw[if_pos bF];refine .inl (ZkB U ?_);rintro v N ⟨aZ,hK⟩;refine⟨aZ,aG,?_⟩;rw[ZkC];rcases hK with⟨bB,aJ⟩|⟨h,rfl,aJ⟩;·exact⟨g,Zf3 H z p (fun s V=>by rw[bB]at V;cases V),aJ⟩
   ·refine⟨upd g i h,⟨by rw[Ze9];exact z.1.trans ((O g).symm.trans (O _)),by rw[Zf0];exact z.2.1.trans ((aM g).symm.trans (aM _)),fun s V=>?_⟩,aJ⟩;by_cases aC:o.dst=some s
    ·rw[aC];by_cases r:s<(y (upd g i h)).tmps.size;·rw[Zf1 (by rw[z.1,<-O g,O (upd g i h)];exact r),aU _ i o s E p aC r];unfold upd;rw[if_pos rfl]
     ·rw[ZhZ (by rw[z.1,<-O g,O (upd g i h)];exact r),Zwl (by omega)]
    ·rw[Ze8 aC];have aV:∀(j:Nat)(T:Oper),l.toArray[j]?=some T->T.dst=some s->m.getD j true=true:=fun j T q aB=>by
      have aN:i≠j:=by rintro rfl;obtain rfl:o=T:=ZzE (p.symm.trans q);exact aC aB
      have:=V j T q aB;rwa [getD_set_ne true aN]at this
     rw[z.2.2 s aV];refine ZkA (hind i E g h) fun hc=>?_;obtain⟨j,T,q,aB,Z⟩:=aL (fun j=>m.getD j true) W i R s hc;have:=aV j T q aB;rw[this]at Z;cases Z
  ·obtain⟨v,hy,hv⟩:=aE g i o E p x hb;have bG:=ZhY (Y i o · · p) (fun s V=>(aP s V).symm) hy;refine Zkw p bG (ZwJ _ _) fun N aX=>⟨hCs _ _ hb aX,aG,g,Zf3 H z p hv,?_⟩;refine hst _ _ g x N (fun j q=>?_) hJ aX;have aN:i≠j:=by rintro rfl;exact E q
   rw[getD_set_ne true aN]
 have aQ:∀(f:Nat)(m:Array Bool)(a:Act)(x:World),m.size=l.toArray.size->Zek l.toArray.size m<=f->Zc8 l.toArray C J y m a x->wpAny P .any l.toArray Q f m a x:=by intro f;induction f with
  |zero=>
   intro m a x hz hf h;have hr:Region.ready .any l.toArray m=[]:=by rw[ZxD];intro i hi;obtain⟨R,o,p,_⟩:=mem_ready.1 hi;have:=Zf2 (n:=l.toArray.size) (Zaz p) R;omega
   exact⟨hr,aI m a x hz h hr⟩|succ f ih=>intro m a x hz hf h;refine⟨fun hr=>aI m a x hz h hr,fun i hi=>?_⟩;obtain⟨R,o,p,_⟩:=mem_ready.1 hi;have hl:=Zf2 (n:=l.toArray.size) (Zaz p) R;exact wpOp_mono (fun a' N h'=>ih _ a' N (by simpa using hz) (by omega) h') (aS m a x i hi h)
 have aK:∀j,j<l.length->(Array.replicate l.toArray.size false).getD j true=false:=fun j q=>by simp[q]
 refine aQ _ _ _ _ (by simp) ?_ ⟨hCs _ _ hC0 (ZwJ _ w).drew,fun i o p Z=>?_,fun _=>Gh.zero,⟨O _,aM _,fun s V=>?_⟩,?_⟩;·unfold Zek;exact Zzb (Zye _ _) (by simp)
 ·have r:=Zaz p;simp only[ZyT]at r;rw[aK i r]at Z;cases Z
 ·refine bE _ s fun j T q U=>?_;have:=V j T q U;have r:=Zaz q;simp only[ZyT]at r;rw[aK j r]at this;cases this
 ·refine hst _ _ _ w _ (fun _ _=>rfl) (h0 _ fun j q=>?_) (ZwJ _ w).drew;have:∃o,l.toArray[j]?=some o:=by unfold spG at hN;have:=Zxl.1 hN j q;cases p:l.toArray[j]? with
   |none=>rw[p]at this;cases this|some o=>exact⟨o,rfl⟩
  obtain⟨o,p⟩:=this;have r:=Zaz p;simp only[ZyT]at r;exact aK j r
end
end Go.Proofs
namespace Go.Proofs
open Tryz
open Go.RowKit
theorem ZiA(n m:Int)(w:World)(hm:m.natAbs<=9000000000000000000):Calls prog 96 #[.int .i64 n,.int .i64 m] w fun e a=>e=.returned (.bool (Za7 n m))/\w=a:=by have d:IntKind.i64.wrap (-m)=-m:=Zxg _ (by omega);go_enter func96,ntmps96;go_wp2_with (go_at_call 33;refine(ZdC _ _ _ _).mono ?_;rintro e a ⟨rfl,rfl⟩);go_ret;exact⟨Zct (by simp[Za7]),rfl⟩
theorem Zlr{α:Type} {P:α->Prop} {l:List α} {k:Nat} {x:α} (hx:l[k]?=some x)(h:∀y∈l.take k,P y)(hp:P x):∀y∈l.take (k+1),P y:=by
 intro y d;rw[ZyV,hx]at d;rcases Zyu.1 d with a|a;·exact h y a
 ·simp at a;subst a;exact hp
structure FewR (ps:List Pa)(es:List En):Prop where
 p:ps.length<=4∨(6<=ps.length/\ps.length<=7)
 e:es.length<=4∨(9<=es.length/\es.length<=10)
 pn:∀p∈ps,p.nm.size<=20
 en:∀x∈es,x.nm.size<=20/\x.co.length<=8
theorem FewR.fewB{ps:List Pa} {es:List En} (h:FewR ps es):FewB ps es:=⟨by have:=h.p;omega,by have:=h.e;omega,fun p d=>by have:=h.pn p d;omega,fun x a=>by have:=(h.en x a).1;omega,fun x a=>by have:=(h.en x a).2;omega⟩
def Zqk(ps:List Pa)(es:List En)(e:Ending):Prop:=∃r:Bool,e=.returned (.bool r)/\(r=true->FewR ps es)
theorem Zls(W V:Option Addr)(U N a d:Nat)(ps:List Pa)(es:List En)(w:World)(hB:BookAt w W U ps V N es)(r:ps.length=a)(m:es.length=d):Calls prog 9 #[.agg #[.slice W a U,.slice V d N]] w fun e w'=>Zqk ps es e/\Below w.heap.size w w':=by
 have aG:a<=U:=by rw[<-r];exact hB.pc'
 have aD:d<=N:=by rw[<-m];exact hB.ec'
 have R:Hid ((a<=4∨(6<=a/\a<=7))->(d<=4∨(9<=d/\d<=10))->(∀p∈ps,p.nm.size<=20)->(∀x∈es,x.nm.size<=20/\x.co.length<=8)->FewR ps es):=Zxi fun h1 h2 h3 h4=>⟨by rw[r];exact h1,by rw[m];exact h2,h3,h4⟩;have hP:=Zxi hB.P;have hE:=Zxi hB.E;have v:=Zxi r;have t:=Zxi m;clear hB r m;by_cases j:a<=7/\(a<=4∨5<a);case neg=>
  by_cases n8:4<(a:Int);all_goals by_cases H:(a:Int)<=5
  all_goals by_cases I:7<(a:Int)
  all_goals try (exfalso;omega)
  all_goals clear j
  all_goals go_enter func9,ntmps9
  all_goals go_wp2
  all_goals go_ret;exact⟨⟨false,rfl,fun h=>nomatch h⟩,by go_grown⟩
 by_cases C:d<=10/\(d<=4∨8<d);case neg=>
  by_cases n8:4<(a:Int);all_goals by_cases H:(a:Int)<=5
  all_goals by_cases I:7<(a:Int)
  all_goals try (exfalso;omega)
  all_goals by_cases m8:4<(d:Int)
  all_goals by_cases m60:(d:Int)<=8
  all_goals by_cases m62:10<(d:Int)
  all_goals try (exfalso;omega)
  all_goals clear j C
  all_goals go_enter func9,ntmps9
  all_goals go_wp2
  all_goals go_ret;exact⟨⟨false,rfl,fun h=>nomatch h⟩,by go_grown⟩
 by_cases n8:4<(a:Int);all_goals by_cases H:(a:Int)<=5
 all_goals by_cases I:7<(a:Int)
 all_goals try (exfalso;omega)
 all_goals by_cases m8:4<(d:Int)
 all_goals by_cases m60:(d:Int)<=8
 all_goals by_cases m62:10<(d:Int)
 all_goals try (exfalso;omega)
 all_goals
  have aF:a<=9:=by omega
  have aC:d<=10:=by omega
  have Q:=Zxi j;have O:=Zxi C;clear j C;go_enter func9,ntmps9;go_wp2;clear n8 H I m8 m60 m62;go_loopw [3] (fun i wr=>∃k:Nat,k<=a/\i=.int .i64 k/\Hid (∀x∈ps.take k,x.nm.size<=20)/\Below w.heap.size w wr/\wr.heap[w.heap.size]?=some (.cells #[.slice W a U,.slice V d N] 25 (0,0)))(fun i _=>a-(intOf i).toNat);case atStart=>exact⟨0,Zzx _,rfl,by simp[Hid],ZC _ _,by(repeat (first|assumption|(refine ZA _ _ ?_;(simp;done))|refine ZD ?_|refine Zz ?_ _|refine ZB ?_ (by simp<;>omega) _))⟩
  case round=>
   obtain⟨k,hk,rfl,f,g,y⟩:=hrel;have C0:=bk2 y;by_cases T:k<a
   ·obtain⟨x,F⟩:∃x,ps[k]?=some x:=⟨_,ZxX (by rw[v.out];exact T)⟩;obtain⟨b,o,rfl,Z,L⟩:=(hP.out.below g) k x F;have G:=Zxi F;have Y:=L 0 _ rfl;simp only[Zy6]at Y;have aA:(k:Int)<(a:Int):=by omega
    clear F L;by_cases g1:20<(x.nm.size:Int);·go_wp2;go_ret;exact⟨⟨false,rfl,fun h=>nomatch h⟩,by go_grown⟩
    ·have D:=Zxi (Zlr (P:=fun x:Pa=>x.nm.size<=20) G.out f.out (by omega));go_wp2;go_roundw;case rel=>exact⟨k+1,by omega,by go_num,D.out,g,y⟩
     case measure=>simp[intOf]<;>omega
   ·have aB:k=a:=by omega
    have z:Hid (∀x∈ps,x.nm.size<=20):=Zxi (by have:=f.out;rwa [ZyX (by rw[v.out];omega)]at this);obtain rfl:a=k:=aB.symm;clear f T;go_wp2;go_loopw [4] (fun i wr=>∃q:Nat,q<=d/\i=.int .i64 q/\Hid (∀x∈es.take q,x.nm.size<=20/\x.co.length<=8)/\Below w.heap.size w wr/\wr.heap[w.heap.size]?=some (.cells #[.slice W a U,.slice V d N] 25 (0,0)))(fun i _=>d-(intOf i).toNat);case atStart=>exact⟨0,Zzx _,rfl,by simp[Hid],g,y⟩
    case round=>
     clear C0 y g;obtain⟨M,aE,rfl,f,g,y⟩:=hrel;have C0:=bk2 y;by_cases u:M<d
     ·obtain⟨x,F⟩:∃x,es[M]?=some x:=⟨_,ZxX (by rw[t.out];exact u)⟩;obtain⟨b,o,rfl,Z,L⟩:=(hE.out.below g).1 M x F;have G:=Zxi F;have Y:=L 0 _ rfl;have c1:=L 1 _ rfl;simp only[Zy6]at Y;have aA:(M:Int)<(d:Int):=by omega
      clear F L;by_cases g1:20<(x.nm.size:Int);·go_wp2;go_ret;exact⟨⟨false,rfl,fun h=>nomatch h⟩,by go_grown⟩
      ·by_cases g2:8<(x.co.length:Int);·go_wp2;go_ret;exact⟨⟨false,rfl,fun h=>nomatch h⟩,by go_grown⟩
       ·have D:=Zxi (Zlr (P:=fun x:En=>x.nm.size<=20/\x.co.length<=8) G.out f.out ⟨by omega,by omega⟩);go_wp2;go_roundw;case rel=>exact⟨M+1,by omega,by go_num,D.out,g,y⟩
        case measure=>simp[intOf]<;>omega
     ·obtain rfl:d=M:=by omega
      clear u;go_wp2;go_ret;refine⟨⟨true,rfl,fun _=>R.out (by have:=Q.out;omega) (by have:=O.out;omega) z.out ?_⟩,by go_grown⟩;have:=f.out;rwa [ZyX (by rw[t.out];omega)]at this
end Go.Proofs
namespace Go.Proofs
open Go Go.Lib
def cutL:List UInt8->List (List UInt8)|[]=>[[]]|c::l=>if c=32 then []::cutL l else match cutL l with|h::t=>(c::h)::t|[]=>[[c]]
theorem ZiD:∀(a:List UInt8),(∀c∈a,c≠32)->cutL a=[a]|[],_=>rfl|c::a,h=>by unfold cutL;rw[if_neg (h c (Zyz ..)),ZiD a (fun d e=>h d (Zyy _ e))]
theorem ZiE:∀(a b:List UInt8),(∀c∈a,c≠32)->cutL (a++32::b)=a::cutL b|[],b,_=>by simp[cutL]|c::a,b,h=>by rw[Zxt,cutL,if_neg (h c (Zyz ..)),ZiE a b (fun d e=>h d (Zyy _ e))]
theorem ZiF(s:List UInt8)(i:Nat):occAt s [32] i=(s[i]?==some 32):=by unfold occAt;cases h:s.drop i with
 |nil=>
  have:s[i]?=none:=by rw[ZxZ];exact List.drop_eq_nil_iff.1 h
  rw[this];rfl|cons c l=>
  have:s[i]?=some c:=by rw[<-List.head?_drop,h];rfl
  rw[this];simp only[List.isPrefixOf,Bool.and_true];rw[ZwO];simp only[beq_iff_eq,ZzF];exact⟨fun e=>e.symm,fun e=>e.symm⟩
theorem Zql:∀(n:Nat)(s:List UInt8),s.length<=n->splitK [32] 0 (count s [32]) s=cutL s:=by intro n;induction n with|zero=>intro s z;have:s=[]:=ZxE (by omega);subst this;decide+kernel|succ n ih=>
  intro s z;rcases index_spec s [32]with⟨h,k⟩|⟨i,h,C,p,k⟩
  ·rw[count_miss h];have r:∀c∈s,c≠32:=by intro c g e;subst e;obtain⟨j,d⟩:=Zx2 g;have m:=(Zx0.1 d).1;have:=k j (by omega);rw[ZiF,d]at this;simp at this
   rw[ZiD s r];rfl
  ·rw[count_hit (by simp) h,Zy2,splitK];have y:¬(index s [32]==-1)=true:=fun e=>by have:=beq_iff_eq.1 e;omega
   rw[if_neg y,h];rw[ZiF]at p;have f:s[i]?=some 32:=by simpa using p
   have m:=(Zx0.1 f).1;have a:s=s.take i++32::s.drop (i+1):=by have q:=List.getElem_cons_drop m;rw[(Zx0.1 f).2]at q;rw[q,List.take_append_drop]
   have r:∀c∈s.take i,c≠32:=by
    intro c g e;subst e;obtain⟨j,d⟩:=Zx2 g;have t:=(Zx0.1 d).1;rw[Zyj]at t;rw[Zx7]at d;split at d;·have:=k j (by omega);rw[ZiF,d]at this;simp at this
    ·cases d
   conv=>rhs;rw[a]
   rw[ZiE _ _ r];have q:((i:Int)).toNat+0=i:=by omega
   have u:((i:Int)).toNat+[(32:UInt8)].length=i+1:=by simp
   have v:i+[(32:UInt8)].length=i+1:=rfl;rw[q,u,v,ih (s.drop (i+1)) (by rw[List.length_drop];omega)]
def isDig(c:UInt8):Bool:=decide (48<=c.toNat)&&decide (c.toNat<=57)
def ZdR:Nat->List UInt8->Nat|a,[]=>a|a,c::l=>ZdR (10*a+(c.toNat-48)) l
def Zdd(l:List UInt8):List UInt8:=if l.head?=some 45 then l.tail else l
theorem Zlt:∀(l:List UInt8)(a:Nat)(c:UInt8),ZdR a (l++[c])=10*ZdR a l+(c.toNat-48)|[],a,c=>rfl|d::l,a,c=>by rw[Zxt];unfold ZdR;exact Zlt l _ c
theorem Zlu(u:Nat)(h:u<10):(UInt8.ofNat (48+u)).toNat=48+u:=by rw[UInt8.toNat_ofNat'];omega
theorem Zfm:∀(u:Nat),decDigits u≠[]/\(decDigits u).all isDig=true/\ZdR 0 (decDigits u)=u/\((decDigits u).head?=some 48->u=0):=by intro u;induction u using Nat.strongRecOn with|_ u ih=>
  by_cases h:u<10
  ·rw[decDigits,dif_pos h];have e:=Zlu u h;refine⟨by simp,?_,?_,?_⟩;·simp only[Zxk,List.all_nil,Bool.and_true,isDig,e];simp;omega
   ·show 10*0+((UInt8.ofNat (48+u)).toNat-48)=u;rw[e];omega
   ·intro d;simp only[List.head?_cons,ZzF]at d;have m:(UInt8.ofNat (48+u)).toNat=48:=congrArg UInt8.toNat d;omega
  ·rw[decDigits,dif_neg h];obtain⟨i,d,j,k⟩:=ih (u / 10) (by omega);have e:=Zlu (u%10) (by omega);refine⟨by simp,?_,?_,?_⟩;·rw[List.all_append,d,Bool.true_and];simp only[Zxk,List.all_nil,Bool.and_true,isDig,e];simp;omega
   ·rw[Zlt,j,e];omega
   ·intro f;have:(decDigits (u / 10)).head?=some 48:=by cases g:decDigits (u / 10)with
     |nil=>exact(i g).elim|cons a l=>rw[g]at f;simpa using f
    have:=k this;omega
theorem ZiG{c:UInt8} (h:isDig c=true):c≠45/\c≠43/\c≠32:=by unfold isDig at h;simp only[ZwL,decide_eq_true_eq]at h;refine⟨?_,?_,?_⟩<;>(intro e;subst e;revert h;decide)
theorem Zlv{l:List UInt8} (h:l.all isDig=true):¬l.head?=some 45:=by cases l with|nil=>simp|cons c l=>simp only[Zxk,ZwL]at h;intro e;simp only[List.head?_cons,ZzF]at e;exact(ZiG h.1).1 e
theorem Zqm(n:Int):Zdd (itoa n)=decDigits n.natAbs/\((itoa n).head?=some 45↔n<0):=by
 obtain⟨f,d,g,i⟩:=Zfm n.natAbs;unfold Zdd itoa;by_cases a:n<0;·rw[if_pos a];simp[a]
 ·rw[if_neg a];have e:n.toNat=n.natAbs:=by omega
  rw[e,if_neg (Zlv d)];exact⟨rfl,⟨fun h=>(Zlv d h).elim,fun h=>(a h).elim⟩⟩
theorem Zqn(l:List UInt8):trimPrefix l [45]=Zdd l:=by unfold trimPrefix Zdd hasPrefix;cases l with
 |nil=>rfl|cons c l=>
  by_cases h:c=45;·subst h;simp
  ·have a:¬(45:UInt8)=c:=fun e=>h e.symm;simp[h,a]
theorem Zlw:∀(l:List UInt8)(a:Nat),l.all isDig=true->decFrom a l=some (ZdR a l)|[],a,_=>rfl|c::l,a,h=>by simp only[Zxk,ZwL]at h;have d:=h.1;unfold isDig at d;simp only[ZwL,decide_eq_true_eq]at d;unfold decFrom digitVal ZdR;rw[if_pos d];dsimp only;rw[Zlw l _ h.2,Nat.mul_comm]
theorem Zlx(u:Nat):decNat (decDigits u)=some u:=by obtain⟨a,d,e,-⟩:=Zfm u;unfold decNat;rw[if_neg (by simpa using a),Zlw _ _ d,e]
theorem Zqo(n:Int):atoi (itoa n)=some n:=by
 unfold itoa;by_cases f:n<0;·rw[if_pos f];unfold atoi;dsimp only;rw[if_pos (by decide),Zlx];simp;omega
 ·rw[if_neg f];obtain⟨g,a,j,-⟩:=Zfm n.toNat;have d:=Zlx n.toNat;cases e:decDigits n.toNat with|nil=>exact(g e).elim|cons c l=>rw[e]at a d;simp only[Zxk,ZwL]at a;obtain⟨h,i,-⟩:=ZiG a.1;unfold atoi;dsimp only;rw[if_neg (by simpa using h),if_neg (by simpa using i),d];simp;omega
theorem Zly:∀(k u:Nat),u<10^(k+1)->(decDigits u).length<=k+1
 |0,u,h=>by rw[decDigits,dif_pos (by omega)];simp|k+1,u,h=>by
  by_cases a:u<10;·rw[decDigits,dif_pos a];simp
  ·rw[decDigits,dif_neg a,Zyc];have:=Zly k (u / 10) (by rw[Nat.pow_succ]at h;omega);simp only[Zyd,Zyg];omega
theorem ZiH(k:Nat)(n:Int)(h:n.natAbs<10^(k+1)):(itoa n).length<=k+2/\(Zdd (itoa n)).length<=k+1:=by
 have a:=Zly k n.natAbs h;refine⟨?_,by rw[(Zqm n).1];exact a⟩;unfold itoa;split;·simp only[Zyd];omega
 ·rw[show n.toNat=n.natAbs by omega];omega
theorem Zqp(n:Int):itoa n≠[]/\∀c∈itoa n,c≠32/\c≠10:=by
 have d:∀u,∀c∈decDigits u,c≠32/\c≠10:=fun u c a=>by have:=Zxl.1 (Zfm u).2.1 c a;refine⟨(ZiG this).2.2,fun e=>?_⟩;subst e;revert this;decide
 unfold itoa;split
 ·refine⟨by simp,fun c a=>?_⟩;rcases Zyx.1 a with rfl|a;·decide
  ·exact d _ c a
 ·exact⟨(Zfm _).1,d _⟩
theorem Zlz(x y:List UInt8)(r:List (List UInt8))(a:List UInt8):join (x::y::r) a=x++(a++join (y::r) a):=by rw[join_cons,join_cons];simp[joinTail]
theorem ZlA:∀(ws:List (List UInt8)),ws≠[]->(∀x∈ws,∀c∈x,c≠32)->cutL (join ws [32])=ws|[],h,_=>(h rfl).elim|[x],_,h=>by rw[join_one];exact ZiD x (h x (by simp))|x::y::r,_,h=>by rw[Zlz];show cutL (x++32::join (y::r) [32])=_;rw[ZiE _ _ (h x (by simp)),ZlA (y::r) (by simp) fun z a=>h z (by simp[a])]
theorem ZlB(K:Nat):∀(ws:List (List UInt8)),(∀x∈ws,x.length<=K)->(join ws [32]).length<=(K+1)*ws.length|[],_=>by rw[join_nil];simp|[x],h=>by rw[join_one];have:=h x (by simp);simp;omega|x::y::r,h=>by rw[Zlz];have e:=h x (by simp);have a:=ZlB K (y::r) fun z d=>h z (by simp[d]);simp only[Zyc,Zyd,Zyg]at a |-;rw[Nat.mul_add]at a |-;rw[Nat.mul_add];omega
end Go.Proofs
