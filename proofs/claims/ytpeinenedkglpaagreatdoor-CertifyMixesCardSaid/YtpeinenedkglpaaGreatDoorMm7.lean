import Derived.Test.YtpeinenedkglpaaGreatDoorMm6
import Derived.Lib.Split
import Derived.Lib.Join
import Derived.Lib.Atoi
import Derived.Lib.ItoaNum
set_option linter.unusedVariables false
set_option linter.unusedSimpArgs false
set_option maxRecDepth 100000
set_option maxHeartbeats 16000000
namespace Go
theorem ZvQ:type_of% @List.getElem?_of_mem:=@List.getElem?_of_mem
theorem Zwq:type_of% @List.mem_toArray:=@List.mem_toArray
end Go
namespace Go.Proofs
open Tryz
open Go.RowKit Go.Twin Go.Conc
variable {S:Env} {X:Nat->Prop} {b o n c np:Nat} {s:Option Nat} {A:Option Addr} {l l1:World} {es:List En} {ws:List Int}
attribute [local go_sem] Oper.semAt_some ZcS ZcT ZcU Zcj ZcV ZcW theorem Zfl(h:VR S (idX X) (.slice (some ⟨b,o,s⟩) n c) (.slice (some ⟨b,o,s⟩) n c)) (hz:S.z0=false:=by rfl):X b:=by cases h with|slice0 _ h=>rw[hz]at h;cases h|slice _ _ _ _ h=>cases h with|mk _ _ _ _ h=>exact h.2
theorem Zii(h:∀b o s,A=some ⟨b,o,s⟩->X b):VR S (idX X) (.slice A n c) (.slice A n c):=by cases A with|none=>exact .nilSlice _ _|some a=>obtain⟨b,o,s⟩:=a;exact .slice _ _ _ _ (.mk _ _ _ _ ⟨rfl,h b o s rfl⟩)
theorem Zeq(h:X b):VR S (idX X) (.pointer (some ⟨b,o,s⟩)) (.pointer (some ⟨b,o,s⟩)):=.ptr _ _ (.mk _ _ _ _ ⟨rfl,h⟩)
theorem Zgi{Y:Nat->Prop} (h:∀b,X b->Y b):(idX X).le (idX Y):=fun b b' x=>⟨x.1,h _ x.2⟩
theorem Zgj(hcl:ZaY S X l) {a:Addr} {v:Value} (hX:X a.block)(hv:l.cell? a=some v):VR S (idX X) v v:=by
 obtain⟨c,T,fz,hc,hn⟩:=hcl _ hX;simp only[World.cell?,hc]at hv;split at hv;·cases hv
 ·exact hn v (ZuD hv)
theorem Zij{α:Type} {sz:Nat} {cs:α->List Value} {xs:List α} (hX:∀b o s,A=some ⟨b,o,s⟩->X b)(hsz:l.heap.size<=l1.heap.size)(hk:∀a v,X a.block->l.cell? a=some v->l1.cell? a=some v)(h:At sz cs l A xs):At sz cs l1 A xs:=by intro k x hx;obtain⟨b,o,h1,h2,h3⟩:=h k x hx;exact⟨b,o,h1,ZwS h2 hsz,fun j v hv=>hk _ _ (hX _ _ _ h1) (h3 j v hv)⟩
theorem Zlq(hcl:ZaY S X l) (hf:VR S (idX X) (.slice A n c) (.slice A n c)) (hsz:l.heap.size<=l1.heap.size) (hk:∀a v,X a.block->l.cell? a=some v->l1.cell? a=some v) (h:Zaw l A es) (hz:S.z0=false:=by rfl):Zaw l1 A es:=by
 have hX:∀b o s,A=some ⟨b,o,s⟩->X b:=fun b o s e=>by subst e;exact Zfl hf hz
 refine⟨Zij hX hsz hk h.1,fun x hx=>Zij (X:=X) (fun b o s e=>?_) hsz hk (h.2 x hx)⟩;obtain⟨k,hk'⟩:=ZvQ hx;obtain⟨b',o',h1,h2,h3⟩:=h.1 k x hk';have h4:=h3 1 _ rfl;have h5:=Zgj hcl (hX _ _ _ h1) h4;rw[e]at h5;exact Zfl h5 hz
structure BtAt (l:World)(pA eA:Option Addr)(np pc en ec:Nat)(es:List En)(X:Nat->Prop):Prop where
 R:RightE es np
 E:Zaw l eA es
 hen:es.length=en
 h1:1<=np
 h5:np<=5
 hX:ZaY EnvS X l
 fp:VR EnvS (idX X) (.slice pA np pc) (.slice pA np pc)
 fe:VR EnvS (idX X) (.slice eA en ec) (.slice eA en ec)
 gsz:prog.globals.size<=l.heap.size
structure LtAt (l:World)(A:Option Addr)(np:Nat)(es:List En)(ws:List Int):Prop where
 W:At 1 Zc l A ws
 wn:ws.length=np
 hws:Small 400 ws
 mix:∀m d p,solvedL np (exs es) ws=some (m,d,p)->m.length=np/\Small 1228800000000000 m
theorem LtAt.cells(h:LtAt l A np es ws)(h1:1<=np):∃b o,A=some ⟨b,o,none⟩/\∃c T f,l.heap[b]?=some (.cells c T f):=by
 have hlt:0<ws.length:=by rw[h.wn];omega
 obtain⟨b,o,hA,_,hc⟩:=h.W 0 _ (ZvL hlt);refine⟨b,o,hA,?_⟩;have h2:=hc 0 _ rfl;unfold World.cell? at h2;cases hh:l.heap[b]? with
 |none=>rw[hh]at h2;cases h2|some ob=>rw[hh]at h2;cases ob with|cells c T f=>exact⟨c,T,f,rfl⟩|_=>cases h2
def Z6(bb:Nat)(A:Option Addr)(n:Nat)(b:Nat):Prop:=b=bb∨b=n∨b=n+1∨∃o,A=some ⟨b,o,none⟩
theorem Z8:Zau.P=prog:=rfl
theorem ZrA:SubG EnvS Zau Zau:=⟨rfl,rfl,ZfT.good⟩
theorem ZrB (w:Value) (bb:Nat):Frame.enter prog 87 #[w,.pointer (some ⟨bb,0,none⟩)] .normal=(Go.Conc.base 87).at ⟨#[w,.pointer (some ⟨bb,0,none⟩),zu,zu,zu,zu,zu,zu],[]⟩ [.code (Tryz.f87.body.getD .skip)]:=by rw[enter_at (fn:=Tryz.f87) (c:=Tryz.f87.body.getD .skip) _ func87 rfl];rfl
theorem ZrC (bb bl bc:Nat):(Go.Conc.base 88).at ⟨#[.pointer (some ⟨bb,0,none⟩),.pointer (some ⟨bl,0,none⟩),.pointer (some ⟨bc,0,none⟩)]++Array.replicate (Tryz.f88.ntmps-(#[.pointer (some ⟨bb,0,none⟩),.pointer (some ⟨bl,0,none⟩),.pointer (some ⟨bc,0,none⟩)]:Array Value).size) undef,[]⟩ [.code Zfk]=(Go.Conc.base 88).at ⟨#[.pointer (some ⟨bb,0,none⟩),.pointer (some ⟨bl,0,none⟩),.pointer (some ⟨bc,0,none⟩),zu,zu,zu,zu,zu,zu,zu,zu,zu,zu,zu,zu,zu,zu,zu,zu,zu,zu,zu,zu,zu,zu,zu],[]⟩ [.code Zfk]:=by rw[show Tryz.f88.ntmps=26 from by kernel_rfl];walk_nrm
theorem Zlr:∃i,prog.info? 146=some i/\i.bytes=24:=by
 have h:(prog.info? 146).map (·.bytes)=some 24:=by kernel_rfl
 obtain⟨i,hi,hb⟩:=Zxf.1 h;exact⟨i,hi,hb⟩
theorem Zls:∃d,prog.underlying 144=some (.chan d 146):=⟨.both,by kernel_rfl⟩
theorem mkE(w:World):(Instr.makeChan 144 (.int .i64 1)).run prog w=.ok (.chan (some w.heap.size)) (w.alloc (.chan 1 #[] false 0 0 false)):=by obtain⟨i,hi,hb⟩:=Zlr;obtain⟨d,hd⟩:=Zls;simpa using run_makeChan (P:=prog) (w:=w) hd hi .i64 1 (by omega) (by rw[hb];omega)
theorem ZrD(w:World)(es:Array Event):(Instr.makeChan 144 (.int .i64 1)).events prog w es=es:=by obtain⟨i,hi,hb⟩:=Zlr;obtain⟨d,hd⟩:=Zls;simpa using events_makeChan (P:=prog) (w:=w) hd hi .i64 1 (by omega) (by rw[hb];omega) es
theorem Zlt{W0:World} {J:Nat->Option Job} {U:Nat->Prop} {Post:Value->World->Prop} {sh:Nat->Prop} {bs:List Frame} {pA eA wA:Option Addr} {pc en ec wc bb:Nat} {c:Frame} {cs:List Frame} (hJ:∀k j,J k=some j->Zch Zau j)(hB:BtAt l pA eA np pc en ec es X)(hL:LtAt l wA np es ws)(hXs:∀b,X b->sh b)(b0:l.cell? ⟨bb,0,none⟩=some (.slice pA np pc))(b1:l.cell? ⟨bb,1,none⟩=some (.slice eA en ec))(hcs:cs≠[])(kk:∀ch K l',W0.heap.size<=ch->0<K->J K=none->ZaY EnvS (fun b=>X b∨Z6 bb wA l.heap.size b) l'->(∀a v,l.cell? a=some v->VR EnvS (idX fun b=>X b∨Z6 bb wA l.heap.size b) v v->l'.cell? a=some v)->l.heap.size+2=l'.heap.size->(∀b,b<l.heap.size->¬Z6 bb wA l.heap.size b->l'.heap[b]?=l.heap[b]?)->LG Zau (StopK Zau W0 (Go.ConcN.upd J K (some ⟨ch,fun v=>v=wkV np es ws,[bot prog],ZbD prog 88 ch (fun v=>v=wkV np es ws)⟩)) (fun x=>U x∨x=K) none Post (fun b=>sh b∨Z6 bb wA l.heap.size b) bs) (c.finish (.chan (some ch))) cs l'):LG Zau (StopK Zau W0 J U none Post sh bs) (Frame.enter prog 87 #[.slice wA np wc,.pointer (some ⟨bb,0,none⟩)] .normal) (c::cs) l:=by
 rw[ZrB];simp only[Tryz.f87,Zxd];refine Zaa ZQ ?_;refine Za5 ZQ ?_;simp only[Zwy,Zv0,Zv3,Nat.reduceAdd,Zw9,List.range,List.range.loop];refine ZP ZQ rfl rfl (by decide) (by kernel_rfl) (fun tt dd K k1 k2=>?_);simp only[Z8];go_simp;first|refine k1 _ _ ?_|refine k2 _ ?_
 clear k1 k2 K tt dd;try walk_nrm
 refine ZP ZQ rfl rfl (by decide) (by kernel_rfl) (fun tt dd K k1 k2=>?_);simp only[Z8];go_simp;first|refine k1 _ _ ?_|refine k2 _ ?_
 clear k1 k2 K tt dd;try walk_nrm
 refine Za6 ZQ ?_;refine Zaa ZQ ?_;refine Za5 ZQ ?_;simp only[Zwy,Zv0,Zv3,Nat.reduceAdd,Zw9,List.range,List.range.loop];refine .stop _ _ _ (Zoq rfl (by simp) rfl rfl (fun a w=>?hr1) (fun a w=>?he1) fun ch hch=>?_);case hr1=>have:=mkE w;simp only[Z8];simp[go_sem,execOp,this,Act.eval]
 case he1=>have h1:=mkE w;have h2:=ZrD w;simp only[Z8];simp[go_sem,execOp,h1,h2,Act.eval]
 refine ZeS Zdy rfl hJ ?_;walk_nrm;refine ZP ZQ rfl rfl (by decide) (by kernel_rfl) (fun tt dd K k1 k2=>?_);simp only[Z8];go_simp;first|refine k1 _ _ ?_|refine k2 _ ?_
 clear k1 k2 K tt dd;try walk_nrm
 refine ZP ZQ rfl rfl (by decide) (by kernel_rfl) (fun tt dd K k1 k2=>?_);simp only[Z8];go_simp;first|refine k1 _ _ ?_|refine k2 _ ?_
 clear k1 k2 K tt dd;try walk_nrm
 refine Za6 ZQ ?_;refine Zaa ZQ ?_;refine Za5 ZQ ?_;simp only[Zwy,Zv0,Zv3,Nat.reduceAdd,Zw9,List.range,List.range.loop];refine ZP ZQ rfl rfl (by decide) (by kernel_rfl) (fun tt dd K k1 k2=>?_);simp only[Z8];go_simp;first|refine k1 _ _ ?_|refine k2 _ ?_
 clear k1 k2 K tt dd;try walk_nrm
 have hold:∀b,b<l.heap.size->(((l.alloc (.cells #[.slice wA np wc] 28)).alloc (.cells #[.chan (some ch)] 144))).heap[b]?=l.heap[b]?:=fun b hb=>by show ((l.heap.push _).push _)[b]?=_;rw[Zut (by simp;omega),Zuz hb,Zum hb]
 have n0:(((l.alloc (.cells #[.slice wA np wc] 28)).alloc (.cells #[.chan (some ch)] 144))).heap[l.heap.size]?=some (.cells #[.slice wA np wc] 28 (0,0)):=by show ((l.heap.push _).push _)[l.heap.size]?=_;rw[Zus,Zus];simp
 have n1:(((l.alloc (.cells #[.slice wA np wc] 28)).alloc (.cells #[.chan (some ch)] 144))).heap[l.heap.size+1]?=some (.cells #[.chan (some ch)] 144 (0,0)):=by show ((l.heap.push _).push _)[l.heap.size+1]?=_;rw[Zus];simp
 have hsz2:(((l.alloc (.cells #[.slice wA np wc] 28)).alloc (.cells #[.chan (some ch)] 144))).heap.size=l.heap.size+2:=by simp
 obtain⟨wb,wo,hwA,hwc⟩:=hL.cells hB.h1;have hlt:∀{b:Nat} {o:Obj},l.heap[b]?=some o->b<l.heap.size:=fun h=>(Zuo.1 h).1;have hbc:∃c T f,l.heap[bb]?=some (.cells c T f):=by have h2:=b0;unfold World.cell? at h2;cases hh:l.heap[bb]? with|none=>rw[hh]at h2;cases h2|some ob=>rw[hh]at h2;cases ob with|cells c T f=>exact⟨c,T,f,rfl⟩|_=>cases h2
 obtain⟨l2,hl2⟩:∃l2,((l.alloc (.cells #[.slice wA np wc] 28)).alloc (.cells #[.chan (some ch)] 144))=l2:=⟨_,rfl⟩;rw[hl2]at hold n0 n1 hsz2 |-;clear hl2;have hY:∀b,Z6 bb wA l.heap.size b->∃c T f,l2.heap[b]?=some (.cells c T f):=by
  rintro b (rfl|rfl|rfl|⟨o,ho⟩);·obtain⟨c,T,f,h⟩:=hbc;exact⟨c,T,f,by rw[hold _ (hlt h)];exact h⟩
  ·exact⟨_,_,_,n0⟩
  ·exact⟨_,_,_,n1⟩
  ·rw[hwA]at ho;cases ho;obtain⟨c,T,f,h⟩:=hwc;exact⟨c,T,f,by rw[hold _ (hlt h)];exact h⟩
 have hcl2:ZaY EnvS X l2:=fun b hb=>by obtain⟨c,T,f,h1,h2⟩:=hB.hX b hb;exact⟨c,T,f,by rw[hold _ (hlt h1)];exact h1,h2⟩
 have hXm:(idX X).le (idX ((fun b=>X b∨Z6 bb wA l.heap.size b))):=Zgi fun b=>.inl;have hcel:∀a v,l.cell? a=some v->VR EnvS (idX ((fun b=>X b∨Z6 bb wA l.heap.size b))) v v->(sanW EnvS ((fun b=>X b∨Z6 bb wA l.heap.size b)) (Z6 bb wA l.heap.size) l2).cell? a=some v:=fun a v hv hn=>Zd4 (Zdb hold hv) hn;have hkeep:∀a v,X a.block->l.cell? a=some v->(sanW EnvS ((fun b=>X b∨Z6 bb wA l.heap.size b)) (Z6 bb wA l.heap.size) l2).cell? a=some v:=fun a v hx hv=>hcel a v hv ((Zgj hB.hX hx hv).mono hXm);have hfw:VR EnvS (idX ((fun b=>X b∨Z6 bb wA l.heap.size b))) (.slice wA np wc) (.slice wA np wc):=Zii fun b o s e=>by rw[hwA]at e;cases e;exact .inr (.inr (.inr (.inr ⟨_,hwA⟩)))
 have hcc:(sanW EnvS ((fun b=>X b∨Z6 bb wA l.heap.size b)) (Z6 bb wA l.heap.size) l2).cell? ⟨l.heap.size+1,0,none⟩=some (.chan (some ch)):=Zd4 (by simp[World.cell?,n1]) (.chan _);have hwk:WkAt (sanW EnvS ((fun b=>X b∨Z6 bb wA l.heap.size b)) (Z6 bb wA l.heap.size) l2) pA eA wA np pc en ec wc es ws bb l.heap.size (l.heap.size+1) ch ((fun b=>X b∨Z6 bb wA l.heap.size b)):={
  R:=hB.R
  E:=Zlq hB.hX hB.fe (by rw[ZbE,hsz2];omega) hkeep hB.E
  hen:=hB.hen
  W:=fun k x hx=>by obtain⟨b,o,g1,g2,g3⟩:=hL.W k x hx;refine⟨b,o,g1,by rw[ZbE,hsz2];omega,fun j v hv=>hcel _ _ (g3 j v hv) ?_⟩;cases j with|zero=>cases hv;exact .int _ _|succ j=>cases hv
  wn:=hL.wn
  h1:=hB.h1
  h5:=hB.h5
  hws:=hL.hws
  b0:=hcel _ _ b0 (hB.fp.mono hXm)
  b1:=hcel _ _ b1 (hB.fe.mono hXm)
  l0:=Zd4 (by simp[World.cell?,n0]) hfw
  c0:=hcc
  hX:=Zha hcl2 hY
  fp:=hB.fp.mono hXm
  fe:=hB.fe.mono hXm
  fw:=hfw
  gsz:=by rw[ZbE,hsz2];have:=hB.gsz;omega
  mix:=hL.mix};have hwl:=Zrx hwk;rw[<-ZrC]at hwl;refine .stop _ _ _ (Zor (S:=EnvS) (X:=X) (Y:=Z6 bb wA l.heap.size) (V:=fun v=>v=wkV np es ws) (F:=88) (x:=6) (fn:=Tryz.f88) (body:=Zfk) (cap:=#[.pointer (some ⟨bb,0,none⟩),.pointer (some ⟨l.heap.size,0,none⟩),.pointer (some ⟨l.heap.size+1,0,none⟩)]) ZrA rfl (fun _=>rfl) rfl rfl (fun _=>rfl) (by simp) (by kernel_rfl) rfl rfl rfl rfl ?hrun func88 rfl (by kernel_rfl) (by kernel_rfl) ?hcap hXs hcl2 hY (hwl.sub ZfT) fun K hK hJK=>?_);case hrun=>intro ρ cap' w h;simp only[Z8];constructor<;>simp[go_sem,execOp,h]
 case hcap=>
  intro v hv;simp only[Zwq,Zwi,Zwt,or_false]at hv;rcases hv with rfl|rfl|rfl;·exact Zeq (.inr (.inl rfl))
  ·exact Zeq (.inr (.inr (.inl rfl)))
  ·exact Zeq (.inr (.inr (.inr (.inl rfl))))
 have hJ':∀k j,(Go.ConcN.upd J K (some ⟨ch,fun v=>v=wkV np es ws,[bot prog],ZbD prog 88 ch (fun v=>v=wkV np es ws)⟩)) k=some j->Zch Zau j:=by
  intro k j hk;rcases upd_some hk with⟨_,rfl⟩|⟨_,hk⟩;·exact Zg8 (E:=Zau) (fn:=Tryz.f88) func88 (by kernel_rfl)
  ·exact hJ k j hk
 refine ZeS Zdy rfl hJ' ?_;have hown:∀b,b<l.heap.size->¬Z6 bb wA l.heap.size b->(sanW EnvS ((fun b=>X b∨Z6 bb wA l.heap.size b)) (Z6 bb wA l.heap.size) l2).heap[b]?=l.heap[b]?:=fun b hb hn=>by rw[ZeP hn];exact hold b hb
 have hK':=kk ch K (sanW EnvS ((fun b=>X b∨Z6 bb wA l.heap.size b)) (Z6 bb wA l.heap.size) l2) hch hK hJK (Zha hcl2 hY) hcel (by rw[ZbE,hsz2]) hown;clear kk hwl hwk;generalize sanW EnvS ((fun b=>X b∨Z6 bb wA l.heap.size b)) (Z6 bb wA l.heap.size) l2=l3 at hcc hK' |-;walk_nrm;refine Za6 ZQ ?_;refine Zaa ZQ ?_;refine Za5 ZQ ?_;simp only[Zwy,Zv0,Zv3,Nat.reduceAdd,Zw9,List.range,List.range.loop];refine ZP ZQ rfl rfl (by decide) (by kernel_rfl) (fun tt dd K k1 k2=>?_);simp only[Z8];go_simp;first|refine k1 _ _ ?_|refine k2 _ ?_
 clear k1 k2 K tt dd;try walk_nrm
 refine ZP ZQ rfl rfl (by decide) (by kernel_rfl) (fun tt dd K k1 k2=>?_);simp only[Z8];go_simp;first|refine k1 _ _ ?_|refine k2 _ ?_
 clear k1 k2 K tt dd;try walk_nrm
 refine Za6 ZQ ?_;refine Zn3 ZQ ?_;exact Zn4 ZQ rfl rfl func87 (fun w=>by simp[results,Tryz.f87,go_sem]) (fun w=>by simp[results,Tryz.f87,go_sem]) hK'
end Go.Proofs
namespace Go.Proofs
open Tryz
open Go.RowKit
attribute [local go_sem] Oper.semAt_some def Zik:Nat->Code->Code|0,c=>c|n+1,.seq _ b=>Zik n b|_,c=>c
noncomputable def Zlu:Code:=Zik 4 (Tryz.f69.body.getD .skip)
def Zfm(parts A1 D1 A2 D2:Int)(k1 k2:Bool):Value:=if (k1&&k2)=true then .tuple #[.agg #[.int .i64 (parts*A1 / D1),.int .i64 (-(parts*A2 / D2))],.bool true]else .tuple #[.agg #[.int .i64 0,.int .i64 0],.bool false]
theorem ZrE(x0 x24 x26:Value)(parts A1 D1 A2 D2:Int)(k1 k2:Bool)(b8 b13 b14:Nat)(w:World)(h8:w.heap[b8]?=some (.cells #[.int .i64 0,.int .i64 0] 79 (0,0)))(h13:w.heap[b13]?=some (.cells #[.int .i64 A1,.int .i64 D1,.bool k1] 146 (0,0)))(h14:w.heap[b14]?=some (.cells #[.int .i64 A2,.int .i64 D2,.bool k2] 146 (0,0)))(hk1:k1=true->0<D1/\(parts*A1).natAbs<=9000000000000000000)(hk2:k2=true->0<D2/\(parts*A2).natAbs<=9000000000000000000):Zlu.wp prog (bodyPost prog Tryz.f69 fun e w'=>e=.returned (Zfm parts A1 D1 A2 D2 k1 k2)) ({tmps:=#[x0,undef,undef,.int .i64 parts,undef,undef,undef,undef,.pointer (some ⟨b8,0,none⟩),.bool false,undef,undef,undef,.pointer (some ⟨b13,0,none⟩),.pointer (some ⟨b14,0,none⟩),zu,zu,zu,zu,zu,zu,zu,zu,zu,x24,undef,x26,zu,zu,zu,zu,zu,zu,zu,zu,zu,zu,zu,zu,zu,zu,zu,zu,zu,zu,zu,zu,zu,zu,zu,zu,zu,zu,zu,zu,zu],defers:=[]}:Act) w:=by
 obtain⟨y0,y1,y2⟩:w.cell? ⟨b13,0,none⟩=some (.int .i64 A1)/\w.cell? ⟨b13,1,none⟩=some (.int .i64 D1)/\w.cell? ⟨b13,2,none⟩=some (.bool k1):=by refine⟨?_,?_,?_⟩<;>simp[World.cell?,h13]
 obtain⟨z0,z1,z2⟩:w.cell? ⟨b14,0,none⟩=some (.int .i64 A2)/\w.cell? ⟨b14,1,none⟩=some (.int .i64 D2)/\w.cell? ⟨b14,2,none⟩=some (.bool k2):=by refine⟨?_,?_,?_⟩<;>simp[World.cell?,h14]
 simp only[Zlu,Tryz.f69,Zxd,Zik];have h8':=Zvc h8;have hb13:=ZI h13;have hb14:=ZI h14;clear h13 h14 h8;have hs2:∀x,(sizeOf 79).run prog x=.ok 2 x:=fun x=>by kernel_rfl
 have ha2:∀x,(isAgg 79).run prog x=.ok true x:=fun x=>by kernel_rfl
 cases k1 with
 |false=>clear hk1 hk2;go_wp2_with ((refine ZaV (by with_reducible rfl) (.tmp 8) (.tmp 35) 79 (by with_reducible rfl) b8 [.int .i64 0,.int .i64 0] [.int .i64 0,.int .i64 0] 79 rfl rfl (hs2 _) h8'.out rfl (by decide) ?_;intro w5 hblk5 hg5 hsz5;clear hg5));refine bodyPost_ret (v:=.tuple #[.agg #[.int .i64 0,.int .i64 0],.bool false]) ?_ rfl rfl;exact Zat (p:=8) (u:=9) (ad:=⟨b8,0,none⟩) (v:=.agg #[.int .i64 0,.int .i64 0]) rfl (by rfl) (Z5 (T:=79) (cs:=[.int .i64 0,.int .i64 0]) (ha2 _) (hs2 _) hblk5)|true=>cases k2 with
  |false=>clear hk1 hk2;go_wp2_with ((refine ZaV (by with_reducible rfl) (.tmp 8) (.tmp 35) 79 (by with_reducible rfl) b8 [.int .i64 0,.int .i64 0] [.int .i64 0,.int .i64 0] 79 rfl rfl (hs2 _) h8'.out rfl (by decide) ?_;intro w5 hblk5 hg5 hsz5;clear hg5));refine bodyPost_ret (v:=.tuple #[.agg #[.int .i64 0,.int .i64 0],.bool false]) ?_ rfl rfl;exact Zat (p:=8) (u:=9) (ad:=⟨b8,0,none⟩) (v:=.agg #[.int .i64 0,.int .i64 0]) rfl (by rfl) (Z5 (T:=79) (cs:=[.int .i64 0,.int .i64 0]) (ha2 _) (hs2 _) hblk5)|true=>
   obtain⟨hD1,hb1⟩:=hk1 rfl;obtain⟨hD2,hb2⟩:=hk2 rfl;obtain⟨P1,hP1⟩:∃x,parts*A1=x:=⟨_,rfl⟩;obtain⟨P2,hP2⟩:∃x,parts*A2=x:=⟨_,rfl⟩;have hpost:Zfm parts A1 D1 A2 D2 true true=.tuple #[.agg #[.int .i64 (P1 / D1),.int .i64 (-(P2 / D2))],.bool true]:=by rw[<-hP1,<-hP2];rfl
   rw[hP1]at hb1;rw[hP2]at hb2;have hd1:=Zvc fun W=>Zkw P1 D1 W hD1 hb1;have hd2:=Zvc fun W=>Zkw P2 D2 W hD2 hb2;have hw1:IntKind.i64.wrap (parts*A1)=P1:=by rw[Zva _ (by omega),hP1]
   have hw2:IntKind.i64.wrap (parts*A2)=P2:=by rw[Zva _ (by omega),hP2]
   have hq2:(P2 / D2).natAbs<=9000000000000000000:=ZwP (by have:=Int.natAbs_ediv_le_natAbs P2 D2;exact this) hb2;obtain⟨Q1,hQ1⟩:∃x,P1 / D1=x:=⟨_,rfl⟩;obtain⟨Q2,hQ2⟩:∃x,P2 / D2=x:=⟨_,rfl⟩;rw[hQ1]at hd1 hpost;rw[hQ2]at hd2 hpost hq2;have hw3:IntKind.i64.wrap (-Q2)=-Q2:=by rw[Zva _ (by omega)]
   rw[hpost];clear hk1 hk2 hb1 hb2 hP1 hP2 hQ1 hQ2 hD1 hD2 hpost hq2;go_wp2;refine Zav w 20 (by kernel_rfl) (by kernel_rfl) (by go_grown) ?_;intro hgc hbx;simp only[ZwD,ZwF,Zvt,Zvu];repeat (go_big_quiet_step (first|(go_at_call 90;with_reducible exact Zd (hd1.out _))|(go_at_call 90;with_reducible exact Zd (hd2.out _))))
   refine wpQuiet_nil ?_;intro w6 hb_w6 hw_w6 hs_w6;clear hgc hbx;have h86:=Zw hb_w6 h8'.out;refine ZaV (by with_reducible rfl) (.tmp 8) (.tmp 55) 79 (by with_reducible rfl) b8 [.int .i64 Q1,.int .i64 (-Q2)] [.int .i64 0,.int .i64 0] 79 rfl rfl (hs2 _) h86 rfl (by simp[Value.oneCell']) ?_;intro w9 hblk9 hg9 hsz9;clear hg9;go_wp2;refine bodyPost_ret (v:=.tuple #[.agg #[.int .i64 Q1,.int .i64 (-Q2)],.bool true]) ?_ rfl rfl;exact Zat (p:=8) (u:=9) (ad:=⟨b8,0,none⟩) (v:=.agg #[.int .i64 Q1,.int .i64 (-Q2)]) rfl (by rfl) (Z5 (T:=79) (cs:=[.int .i64 Q1,.int .i64 (-Q2)]) (ha2 _) (hs2 _) hblk9)
end Go.Proofs
namespace Go.Proofs
open Tryz
open Go.RowKit Go.Twin Go.Conc
variable {S:Env} {X:Nat->Prop} {l l1:World} {es:List En} {J:Nat->Option Job} {K:Nat} {x:Option Job}
attribute [local go_sem] Oper.semAt_some ZcS ZcT ZcU Zcj ZcV ZcW def Zar(np:Nat)(es:List En)(ws:List Int):Int×Int×Bool:=match solvedL np (exs es) ws with|none=>(0,0,false)|some (m,d,_)=>(dotL ws m,d,true)
theorem Zgk(np:Nat)(es:List En)(ws:List Int):wkV np es ws=.agg #[.int .i64 (Zar np es ws).1,.int .i64 (Zar np es ws).2.1,.bool (Zar np es ws).2.2]:=by unfold wkV Zar;cases solvedL np (exs es) ws with|none=>rfl|some q=>obtain⟨m,d,p⟩:=q;rfl
def ZbK(np:Nat)(es:List En)(lows ups:List Int)(parts:Int):Value:=if ((Zar np es lows).2.2&&(Zar np es (Zaf ups)).2.2)=true then .tuple #[.agg #[.int .i64 (parts*(Zar np es lows).1 / (Zar np es lows).2.1),.int .i64 (-(parts*(Zar np es (Zaf ups)).1 / (Zar np es (Zaf ups)).2.1))],.bool true] else .tuple #[.agg #[.int .i64 0,.int .i64 0],.bool false]
def ZcK(np:Nat)(es:List En)(ws:List Int)(parts:Int):Prop:=(Zar np es ws).2.2=true->0<(Zar np es ws).2.1/\(parts*(Zar np es ws).1).natAbs<=9000000000000000000
theorem Zil (a b c d:Value):Frame.enter prog 69 #[a,b,c,d] .normal=(Go.Conc.base 69).at ⟨#[a,b,c,d]++Array.replicate 52 undef,[]⟩ [.code (Tryz.f69.body.getD .skip)]:=by rw[enter_at (fn:=Tryz.f69) (c:=Tryz.f69.body.getD .skip) _ func69 rfl];rfl
theorem ZrF(l:List Int):(Zaf l).length=l.length:=by simp[Zaf]
theorem ZrG{k:Nat} {l:List Int} (h:Small k l):Small k (Zaf l):=by intro x hx;obtain⟨y,hy,rfl⟩:=Zwm.1 hx;have:=h y hy;omega
theorem ZrH:Zdx.all (ZfR prog)=true:=by kernel_rfl
theorem ZrI(tab:Code):(EnvS.run tab).Fine:=ZfS (EnvS.run tab) Zdx (fun _=>rfl) ZrH (fun h=>(by cases h)) rfl
theorem Zlv:Sub EnvS Zau:=⟨rfl,rfl,rfl,rfl,rfl,fun h=>(by cases h),ZfT.good,fun h=>h⟩
theorem Zim(hold:∀b,b<l.heap.size->l1.heap[b]?=l.heap[b]?)(h:ZaY S X l):ZaY S X l1:=fun b hb=>by obtain⟨c,T,f,h1,h2⟩:=h b hb;exact⟨c,T,f,by rw[hold _ (Zuo.1 h1).1];exact h1,h2⟩
theorem Zlw{A:Option Addr} (hsz:l.heap.size<=l1.heap.size)(hold:∀b,b<l.heap.size->l1.heap[b]?=l.heap[b]?)(h:Zaw l A es):Zaw l1 A es:=⟨Zdc hsz hold h.1,fun x hx=>Zdc hsz hold (h.2 x hx)⟩
theorem Zlx(h:ZaY EnvS X l) (hg:prog.globals.size<=l.heap.size):Self EnvS (fun _=>False) (idX X) l:=⟨Zjj rfl (fun _=>rfl) (fun _=>rfl) h hg,fun _ h=>h.elim,Zjh⟩
def ZbL(S:Env)(X:Nat->Prop)(l:List Value):Prop:=∀v∈l,VR S (idX X) v v
theorem ZbL.nil:ZbL S X []:=fun v h=>by cases h
theorem ZbL.cons{v:Value} {l:List Value} (h:VR S (idX X) v v)(k:ZbL S X l):ZbL S X (v::l):=fun u hu=>by
 rcases Zwi.1 hu with rfl|hu;·exact h
 ·exact k u hu
theorem ZbL.ar{l:List Value} (h:ZbL S X l):AR S (idX X) l.toArray l.toArray:=Zu fun v hv=>h v (by simpa using hv)
theorem ZbL.agg{l:List Value} (h:ZbL S X l):VR S (idX X) (.agg l.toArray) (.agg l.toArray):=Zf h.ar
theorem ZrJ{P:Program} {fn:Func} {x:Code} {u:Value} {R:Value->World->Prop} {a:Act} {w:World} (h:x.wp P (bodyPost P fn fun e _=>e=.returned u) a w)(hR:∀w,R u w):x.wp P (fun e a' w'=>(e=.ret∨e=.normal)/\a'.defers=[]/\∃v,(results fn a'.tmps).run P w'=.ok v w'/\R v w') a w:=wp_mono h fun e a' w' hb=>by cases e with|normal=>obtain⟨h1,v,h2,h3⟩:=hb;cases h3;exact⟨.inr rfl,h1,_,h2,hR _⟩|ret=>obtain⟨h1,v,h2,h3⟩:=hb;cases h3;exact⟨.inl rfl,h1,_,h2,hR _⟩|panic c=>exact absurd hb.2 (by simp)|outgrown=>cases hb|exit id=>exact hb.elim|goto id=>exact hb.elim
theorem Zin:Go.ConcN.upd J K x K=x:=Go.ConcN.upd_same _ _ _
theorem ZrK{L:Nat} (h:L≠K):Go.ConcN.upd J K x L=J L:=Go.ConcN.upd_ne _ _ h
theorem ZrL{W0:World} {Post:Value->World->Prop} {sh:Nat->Prop} {bs:List Frame} {pA eA loA upA:Option Addr} {np pc en ec lc uc:Nat} {lows ups:List Int} {parts:Int} {c:Frame} {ca:List Frame} (hB:BtAt l pA eA np pc en ec es X) (hL:LtAt l loA np es lows) (hU:At 1 Zc l upA ups) (hun:ups.length=np) (hus:Small 400 ups) (hmx:∀m d p,solvedL np (exs es) (Zaf ups)=some (m,d,p)->m.length=np/\Small 1228800000000000 m)(hlo:VR EnvS (idX X) (.slice loA np lc) (.slice loA np lc)) (hup:VR EnvS (idX X) (.slice upA np uc) (.slice upA np uc)) (hXs:∀b,X b->sh b) (hXl:∀b,X b->b<l.heap.size)(hk1:ZcK np es lows parts)(hk2:ZcK np es (Zaf ups) parts)(hbs:bs=c::ca)(k:∀{v:Value} {w':World} {gs':Array Goroutine} {sl':Option (Nat×Nat)} {t':Trace} {q':Nat->Nat},v=ZbK np es lows ups parts->Kept1 W0 w'->gs'[0]?=some (G (c.finish v) ca)->Leavers prog t' gs' q'->Past (fun _=>False) w'.heap.size t'->Twin.Fin prog Post gs' w' sl' t'):LG Zau (StopK Zau W0 (fun _=>none) (fun _=>False) none Post sh bs) (Frame.enter prog 69 #[.agg #[.slice pA np pc,.slice eA en ec],.slice loA np lc,.slice upA np uc,.int .i64 parts] .normal) [ZD prog] l:=by
 rw[Zil];simp only[Tryz.f69,Zxd];walk_nrm;refine Zaa ZQ ?_;refine Za5 ZQ ?_;simp only[Zwy,Zv0,Zv3,Nat.reduceAdd,Zw9,List.range,List.range.loop];refine ZP ZQ rfl rfl (by decide) (by kernel_rfl) (fun tt dd K k1 k2=>?_);simp only[Z8];go_simp;first|refine k1 _ _ ?_|refine k2 _ ?_
 clear k1 k2 K tt dd;try walk_nrm
 refine ZP ZQ rfl rfl (by decide) (by kernel_rfl) (fun tt dd K k1 k2=>?_);simp only[Z8];go_simp;first|refine k1 _ _ ?_|refine k2 _ ?_
 clear k1 k2 K tt dd;try walk_nrm
 refine ZP ZQ rfl rfl (by decide) (by kernel_rfl) (fun tt dd K k1 k2=>?_);simp only[Z8];go_simp;first|refine k1 _ _ ?_|refine k2 _ ?_
 clear k1 k2 K tt dd;try walk_nrm
 refine Za6 ZQ ?_;refine Zaa ZQ ?_;refine Za5 ZQ ?_;simp only[Zwy,Zv0,Zv3,Nat.reduceAdd,Zw9,List.range,List.range.loop];refine ZP ZQ rfl rfl (by decide) (by kernel_rfl) (fun tt dd K k1 k2=>?_);simp only[Z8];go_simp;first|refine k1 _ _ ?_|refine k2 _ ?_
 clear k1 k2 K tt dd;try walk_nrm
 refine ZP ZQ rfl rfl (by decide) (by kernel_rfl) (fun tt dd K k1 k2=>?_);simp only[Z8];go_simp;first|refine k1 _ _ ?_|refine k2 _ ?_
 clear k1 k2 K tt dd;try walk_nrm
 refine Za6 ZQ ?_;refine Zaa ZQ ?_;refine Za5 ZQ ?_;simp only[Zwy,Zv0,Zv3,Nat.reduceAdd,Zw9,List.range,List.range.loop];refine ZP ZQ rfl rfl (by decide) (by kernel_rfl) (fun tt dd K k1 k2=>?_);simp only[Z8];go_simp;first|refine k1 _ _ ?_|refine k2 _ ?_
 clear k1 k2 K tt dd;try walk_nrm
 refine ZP ZQ rfl rfl (by decide) (by kernel_rfl) (fun tt dd K k1 k2=>?_);simp only[Z8];go_simp;first|refine k1 _ _ ?_|refine k2 _ ?_
 clear k1 k2 K tt dd;try walk_nrm
 refine Zci (g:=87) (args:=#[.slice loA np lc,.pointer (some ⟨l.heap.size,0,none⟩)]) ZQ rfl rfl (by decide) (by kernel_rfl) (fun w=>by simp only[Z8];go_simp) ?_;rw[Z8];have hold1:∀b,b<l.heap.size->(((l.alloc (.cells #[.slice pA np pc,.slice eA en ec] 25)).alloc (.cells #[.int .i64 0,.int .i64 0] 79))).heap[b]?=l.heap[b]?:=fun b hb=>by show ((l.heap.push _).push _)[b]?=_;rw[Zut (by simp;omega),Zuz hb,Zum hb]
 have n0:(((l.alloc (.cells #[.slice pA np pc,.slice eA en ec] 25)).alloc (.cells #[.int .i64 0,.int .i64 0] 79))).heap[l.heap.size]?=some (.cells #[.slice pA np pc,.slice eA en ec] 25 (0,0)):=by show ((l.heap.push _).push _)[l.heap.size]?=_;rw[Zus,Zus];simp
 have n8:(((l.alloc (.cells #[.slice pA np pc,.slice eA en ec] 25)).alloc (.cells #[.int .i64 0,.int .i64 0] 79))).heap[l.heap.size+1]?=some (.cells #[.int .i64 0,.int .i64 0] 79 (0,0)):=by show ((l.heap.push _).push _)[l.heap.size+1]?=_;rw[Zus];simp
 have hsz1:(((l.alloc (.cells #[.slice pA np pc,.slice eA en ec] 25)).alloc (.cells #[.int .i64 0,.int .i64 0] 79))).heap.size=l.heap.size+2:=by simp
 obtain⟨l1,hl1⟩:∃l1,((l.alloc (.cells #[.slice pA np pc,.slice eA en ec] 25)).alloc (.cells #[.int .i64 0,.int .i64 0] 79))=l1:=⟨_,rfl⟩;rw[hl1]at hold1 n0 n8 hsz1 |-;clear hl1;have hle1:l.heap.size<=l1.heap.size:=by omega
 have hB1:BtAt l1 pA eA np pc en ec es X:={hB with
  E:=Zlw hle1 hold1 hB.E
  hX:=Zim hold1 hB.hX
  gsz:=by have:=hB.gsz;omega};have hL1:LtAt l1 loA np es lows:={hL with W:=Zdc hle1 hold1 hL.W};have c0:l1.cell? ⟨l.heap.size,0,none⟩=some (.slice pA np pc):=by simp[World.cell?,n0]
 have c1:l1.cell? ⟨l.heap.size,1,none⟩=some (.slice eA en ec):=by simp[World.cell?,n0]
 refine Zlt (J:=fun _=>none) (fun k j h=>by cases h) hB1 hL1 hXs c0 c1 (by simp) (fun ch1 K1 l2 hch1 hK1 _ hcl2 hcel2 hsz2 hown2=>?_);have hXm1:(idX X).le (idX ((fun b=>X b∨Z6 l.heap.size loA l1.heap.size b))):=Zgi fun b=>.inl;rw[Frame.finish_at];walk_nrm;refine ZP ZQ rfl rfl (by decide) (by kernel_rfl) (fun tt dd K k1 k2=>?_);simp only[Z8];go_simp;first|refine k1 _ _ ?_|refine k2 _ ?_
 clear k1 k2 K tt dd;try walk_nrm
 refine ZP ZQ rfl rfl (by decide) (by kernel_rfl) (fun tt dd K k1 k2=>?_);simp only[Z8];go_simp;first|refine k1 _ _ ?_|refine k2 _ ?_
 clear k1 k2 K tt dd;try walk_nrm
 refine Zci (g:=89) (args:=#[.slice upA np uc]) ZQ rfl rfl (by decide) (by kernel_rfl) (fun w=>by simp only[Z8];go_simp) ?_;have hU2:At 1 Zc l2 upA ups:=Zij (X:=X) (fun b o s e=>by subst e;exact Zfl hup) (by omega) (fun a v hx hv=>hcel2 a v hv ((Zgj hB1.hX hx hv).mono hXm1)) (Zdc hle1 hold1 hU);have hg2:prog.globals.size<=l2.heap.size:=by have:=hB1.gsz;omega
 refine Zjv (E0:=EnvS) (E:=Zau) (sh:=fun _=>False) (B:=idX ((fun b=>X b∨Z6 l.heap.size loA l1.heap.size b))) (R:=fun v w=>(∃A c,v=.slice A np c/\w.ownsRow l2.heap.size 3 1 (.slice A np c) np ((Zaf ups).map (Value.int .i64)))/\l2.heap.size<=w.heap.size/\∀b,b<l2.heap.size->w.heap[b]?=l2.heap[b]?) ZfP ZfO ZrI Zlv (by kernel_rfl) (Zlx hcl2 hg2) (AR.push AR.empty (hup.mono hXm1)) (fun v w t d h=>h) (fun t d=>?hopp) (fun v l3 B3 hv _ _ _=>?_);case hopp=>refine(Zrz upA ups np uc (l2.re t d) hU2 hun (by have:=hB.h5;omega) (fun x hx=>by have:=hus x hx;omega)).mono ?_;rintro e w ⟨⟨A,c,rfl,ho⟩,hb⟩;exact⟨_,rfl,⟨A,c,rfl,ho⟩,hb.size,fun b hb'=>hb.block b hb'⟩
 obtain⟨⟨Ao,oc,rfl,hown⟩,hle3,hold3⟩:=hv;rw[Frame.finish_at];walk_nrm;refine Zci (g:=87) (args:=#[.slice Ao np oc,.pointer (some ⟨l.heap.size,0,none⟩)]) ZQ rfl rfl (by decide) (by kernel_rfl) (fun w=>by simp only[Z8];go_simp) ?_;rw[Z8];have hcl3:ZaY EnvS ((fun b=>X b∨Z6 l.heap.size loA l1.heap.size b)) l3:=Zim hold3 hcl2;have hB3:BtAt l3 pA eA np pc en ec es ((fun b=>X b∨Z6 l.heap.size loA l1.heap.size b)):={hB with
  E:=Zlw hle3 hold3 (Zlq hB1.hX hB.fe (by omega) (fun a v hx hv=>hcel2 a v hv ((Zgj hB1.hX hx hv).mono hXm1)) hB1.E)
  hX:=hcl3
  fp:=hB.fp.mono hXm1
  fe:=hB.fe.mono hXm1
  gsz:=by omega};have hL3:LtAt l3 Ao np es (Zaf ups):={
  W:=ZaJ hown
  wn:=(ZrF ups).trans hun
  hws:=ZrG hus
  mix:=hmx};have d0:l3.cell? ⟨l.heap.size,0,none⟩=some (.slice pA np pc):=Zdb hold3 (hcel2 _ _ c0 (hB.fp.mono hXm1));have d1:l3.cell? ⟨l.heap.size,1,none⟩=some (.slice eA en ec):=Zdb hold3 (hcel2 _ _ c1 (hB.fe.mono hXm1));have hJ1:∀k j,(Go.ConcN.upd (fun _=>none) K1 (some ((⟨ch1,fun v=>v=wkV np es lows,[bot prog],ZbD prog 88 ch1 (fun v=>v=wkV np es lows)⟩:Job)))) k=some j->Zch Zau j:=by
  intro k j hk;rcases upd_some hk with⟨_,rfl⟩|⟨_,hk⟩;·exact Zg8 (E:=Zau) (fn:=Tryz.f88) func88 (by kernel_rfl)
  ·cases hk
 refine Zlt hJ1 hB3 hL3 (fun b hb=>hb.imp (hXs b) id) d0 d1 (by simp) (fun ch2 K2 l4 hch2 hK2 hJK2 hcl4 hcel4 hsz4 hown4=>?_);have hne:K1≠K2:=fun e=>by rw[<-e,Zin]at hJK2;cases hJK2
 have hJ2:∀k j,(Go.ConcN.upd (Go.ConcN.upd (fun _=>none) K1 (some ((⟨ch1,fun v=>v=wkV np es lows,[bot prog],ZbD prog 88 ch1 (fun v=>v=wkV np es lows)⟩:Job)))) K2 (some ((⟨ch2,fun v=>v=wkV np es (Zaf ups),[bot prog],ZbD prog 88 ch2 (fun v=>v=wkV np es (Zaf ups))⟩:Job)))) k=some j->Zch Zau j:=by
  intro k j hk;rcases upd_some hk with⟨_,rfl⟩|⟨_,hk⟩;·exact Zg8 (E:=Zau) (fn:=Tryz.f88) func88 (by kernel_rfl)
  ·exact hJ1 k j hk
 rw[Frame.finish_at];walk_nrm;refine ZP ZQ rfl rfl (by decide) (by kernel_rfl) (fun tt dd K k1 k2=>?_);simp only[Z8];go_simp;first|refine k1 _ _ ?_|refine k2 _ ?_
 clear k1 k2 K tt dd;try walk_nrm
 refine ZP ZQ rfl rfl (by decide) (by kernel_rfl) (fun tt dd K k1 k2=>?_);simp only[Z8];go_simp;first|refine k1 _ _ ?_|refine k2 _ ?_
 clear k1 k2 K tt dd;try walk_nrm
 refine Za6 ZQ ?_;refine Zaa ZQ ?_;refine Za5 ZQ ?_;simp only[Zwy,Zv0,Zv3,Nat.reduceAdd,Zw9,List.range,List.range.loop];refine ZP ZQ rfl rfl (by decide) (by kernel_rfl) (fun tt dd K k1 k2=>?_);simp only[Z8];go_simp;first|refine k1 _ _ ?_|refine k2 _ ?_
 clear k1 k2 K tt dd;try walk_nrm
 refine .stop _ _ _ (ZjB (zz:=.agg #[.int .i64 0,.int .i64 0,.bool false]) Zdy rfl hJ2 (by simp) (K:=K1) (j:=(⟨ch1,fun v=>v=wkV np es lows,[bot prog],ZbD prog 88 ch1 (fun v=>v=wkV np es lows)⟩:Job)) hK1 (by rw[ZrK hne,Zin]) (.inl (.inr rfl)) (fun v hv=>by subst hv;rw[Zgk];exact Zd2 8 _ (Zgh _ _ _)) rfl rfl (x:=23) rfl (fun ρ w=>?r1) (fun ρ w=>?e1) (fun v1 hv1=>?_));case r1=>simp only[Z8];kernel_rfl
 case e1=>simp only[Z8];kernel_rfl
 refine ZeS Zdy rfl hJ2 ?_;obtain⟨A1,D1,k1,he1⟩:∃A1 D1 k1,Zar np es lows=(A1,D1,k1):=⟨_,_,_,rfl⟩;obtain⟨A2,D2,k2,he2⟩:∃A2 D2 k2,Zar np es (Zaf ups)=(A2,D2,k2):=⟨_,_,_,rfl⟩;have hv1':v1=.agg #[.int .i64 A1,.int .i64 D1,.bool k1]:=by have:v1=wkV np es lows:=hv1;rw[this,Zgk,he1]
 clear hv1;subst hv1';walk_nrm;refine ZP ZQ rfl rfl (by decide) (by kernel_rfl) (fun tt dd K k1 k2=>?_);simp only[Z8];go_simp;first|refine k1 _ _ ?_|refine k2 _ ?_
 clear k1 k2 K tt dd;try walk_nrm
 refine .stop _ _ _ (ZjB (zz:=.agg #[.int .i64 0,.int .i64 0,.bool false]) Zdy rfl hJ2 (by simp) (K:=K2) (j:=(⟨ch2,fun v=>v=wkV np es (Zaf ups),[bot prog],ZbD prog 88 ch2 (fun v=>v=wkV np es (Zaf ups))⟩:Job)) hK2 (by rw[Zin]) ⟨.inr rfl,fun e=>hne e.symm⟩ (fun v hv=>by subst hv;rw[Zgk];exact Zd2 8 _ (Zgh _ _ _)) rfl rfl (x:=25) rfl (fun ρ w=>?r2) (fun ρ w=>?e2) (fun v2 hv2=>?_));case r2=>simp only[Z8];kernel_rfl
 case e2=>simp only[Z8];kernel_rfl
 have hv2':v2=.agg #[.int .i64 A2,.int .i64 D2,.bool k2]:=by have:v2=wkV np es (Zaf ups):=hv2;rw[this,Zgk,he2]
 clear hv2;subst hv2';walk_nrm;refine Zot (xs':=[.agg #[.slice pA np pc,.slice eA en ec],undef,undef,.int .i64 parts,undef,undef,undef,undef,.pointer (some ⟨l.heap.size+1,0,none⟩),.bool false,zu,zu,zu,zu,zu,zu,zu,zu,zu,zu,zu,zu,zu,zu,.agg #[.int .i64 A1,.int .i64 D1,.bool k1],undef,.agg #[.int .i64 A2,.int .i64 D2,.bool k2],zu,zu,zu,zu,zu,zu,zu,zu,zu,zu,zu,zu,zu,zu,zu,zu,zu,zu,zu,zu,zu,zu,zu,zu,zu,zu,zu,zu,zu]) rfl (by repeat first|exact .nil|refine .keep _ _ _ ?_|refine .drop _ _ _ rfl ?_) ?_;refine ZeS Zdy rfl hJ2 ?_;refine ZP ZQ rfl rfl (by decide) (by kernel_rfl) (fun tt dd K k1 k2=>?_);simp only[Z8];go_simp;first|refine k1 _ _ ?_|refine k2 _ ?_
 clear k1 k2 K tt dd;try walk_nrm
 refine ZP ZQ rfl rfl (by decide) (by kernel_rfl) (fun tt dd K k1 k2=>?_);simp only[Z8];go_simp;first|refine k1 _ _ ?_|refine k2 _ ?_
 clear k1 k2 K tt dd;try walk_nrm
 refine ZP ZQ rfl rfl (by decide) (by kernel_rfl) (fun tt dd K k1 k2=>?_);simp only[Z8];go_simp;first|refine k1 _ _ ?_|refine k2 _ ?_
 clear k1 k2 K tt dd;try walk_nrm
 refine ZP ZQ rfl rfl (by decide) (by kernel_rfl) (fun tt dd K k1 k2=>?_);simp only[Z8];go_simp;first|refine k1 _ _ ?_|refine k2 _ ?_
 clear k1 k2 K tt dd;try walk_nrm
 refine Za6 ZQ ?_;have hold5:∀b,b<l4.heap.size->(((l4.alloc (.cells #[.int .i64 A1,.int .i64 D1,.bool k1] 146)).alloc (.cells #[.int .i64 A2,.int .i64 D2,.bool k2] 146))).heap[b]?=l4.heap[b]?:=fun b hb=>by show ((l4.heap.push _).push _)[b]?=_;rw[Zut (by simp;omega),Zuz hb,Zum hb]
 have n13:(((l4.alloc (.cells #[.int .i64 A1,.int .i64 D1,.bool k1] 146)).alloc (.cells #[.int .i64 A2,.int .i64 D2,.bool k2] 146))).heap[l4.heap.size]?=some (.cells #[.int .i64 A1,.int .i64 D1,.bool k1] 146 (0,0)):=by show ((l4.heap.push _).push _)[l4.heap.size]?=_;rw[Zus,Zus];simp
 have n14:(((l4.alloc (.cells #[.int .i64 A1,.int .i64 D1,.bool k1] 146)).alloc (.cells #[.int .i64 A2,.int .i64 D2,.bool k2] 146))).heap[l4.heap.size+1]?=some (.cells #[.int .i64 A2,.int .i64 D2,.bool k2] 146 (0,0)):=by show ((l4.heap.push _).push _)[l4.heap.size+1]?=_;rw[Zus];simp
 have hsz5:(((l4.alloc (.cells #[.int .i64 A1,.int .i64 D1,.bool k1] 146)).alloc (.cells #[.int .i64 A2,.int .i64 D2,.bool k2] 146))).heap.size=l4.heap.size+2:=by simp
 obtain⟨l5,hl5⟩:∃l5,((l4.alloc (.cells #[.int .i64 A1,.int .i64 D1,.bool k1] 146)).alloc (.cells #[.int .i64 A2,.int .i64 D2,.bool k2] 146))=l5:=⟨_,rfl⟩;rw[hl5]at hold5 n13 n14 hsz5 |-;clear hl5;have hlol:∀o,loA=some ⟨l.heap.size+1,o,none⟩->False:=fun o e=>by subst e;have:=hXl _ (Zfl hlo);omega
 have m2:l2.heap[l.heap.size+1]?=some (.cells #[.int .i64 0,.int .i64 0] 79 (0,0)):=by
  rw[hown2 _ (by omega) ?_];·exact n8
  ·rintro(h|h|h|⟨o,h⟩);·omega
   ·omega
   ·omega
   ·exact hlol o h
 have m3:l3.heap[l.heap.size+1]?=some (.cells #[.int .i64 0,.int .i64 0] 79 (0,0)):=by rw[hold3 _ (by omega)];exact m2
 have m4:l4.heap[l.heap.size+1]?=some (.cells #[.int .i64 0,.int .i64 0] 79 (0,0)):=by
  rw[hown4 _ (by omega) ?_];·exact m3
  ·rintro(h|h|h|⟨o,h⟩);·omega
   ·omega
   ·omega
   ·rcases hown.2 with⟨h1,_⟩|⟨g,cap,cur,h1,h2,_⟩;·rw[h]at h1;cases h1
    ·rw[h]at h1;cases h1;omega
 have m5:l5.heap[l.heap.size+1]?=some (.cells #[.int .i64 0,.int .i64 0] 79 (0,0)):=by rw[hold5 _ (by omega)];exact m4
 have hXm5:(idX ((fun b=>((fun b=>X b∨Z6 l.heap.size loA l1.heap.size b)) b∨Z6 l.heap.size Ao l3.heap.size b))).le (idX ((fun b=>((fun b=>((fun b=>X b∨Z6 l.heap.size loA l1.heap.size b)) b∨Z6 l.heap.size Ao l3.heap.size b)) b∨(b=l.heap.size+1∨b=l4.heap.size∨b=l4.heap.size+1)))):=Zgi fun b=>.inl;have hX45:(idX X).le (idX ((fun b=>((fun b=>((fun b=>X b∨Z6 l.heap.size loA l1.heap.size b)) b∨Z6 l.heap.size Ao l3.heap.size b)) b∨(b=l.heap.size+1∨b=l4.heap.size∨b=l4.heap.size+1)))):=Zgi fun b h=>.inl (.inl (.inl h));have hcl5:ZaY EnvS ((fun b=>((fun b=>((fun b=>X b∨Z6 l.heap.size loA l1.heap.size b)) b∨Z6 l.heap.size Ao l3.heap.size b)) b∨(b=l.heap.size+1∨b=l4.heap.size∨b=l4.heap.size+1))) l5:=by
  rintro b (hb|rfl|rfl|rfl);·obtain⟨c,T,f,h1,h2⟩:=Zim hold5 hcl4 b hb;exact⟨c,T,f,h1,fun v hv=>(h2 v hv).mono hXm5⟩
  ·exact⟨_,_,_,m5,fun v hv=>by simp only[Zwq,Zwi,Zwt,or_false]at hv;rcases hv with rfl|rfl<;>exact .int _ _⟩
  ·exact⟨_,_,_,n13,fun v hv=>by simp only[Zwq,Zwi,Zwt,or_false]at hv;rcases hv with rfl|rfl|rfl<;>first|exact .int _ _|exact .bool _⟩
  ·exact⟨_,_,_,n14,fun v hv=>by simp only[Zwq,Zwi,Zwt,or_false]at hv;rcases hv with rfl|rfl|rfl<;>first|exact .int _ _|exact .bool _⟩
 have hbt:Zfm parts A1 D1 A2 D2 k1 k2=ZbK np es lows ups parts:=by unfold Zfm ZbK;rw[he1,he2]
 unfold ZcK at hk1 hk2;rw[he1]at hk1;rw[he2]at hk2;refine Zhb (E0:=EnvS) (E:=Zau) (fn:=Tryz.f69) (R:=fun v w=>v=ZbK np es lows ups parts) ZfP ZfO Zlv (Zlx hcl5 (by have:=hB3.gsz;omega)) ?ha rfl (by kernel_rfl) func69 (fun t d=>?tail) (fun f l' hret hfn=>.stop _ _ _ (ZoA (R':=fun v=>v=ZbK np es lows ups parts) (by rw[hfn];kernel_rfl) hret (fun x _ h=>?hu) (fun v t d h=>⟨?hsol,h⟩) hbs k));case ha=>refine ZbL.ar (l:=[.agg #[.slice pA np pc,.slice eA en ec],undef,undef,.int .i64 parts,undef,undef,undef,undef,.pointer (some ⟨l.heap.size+1,0,none⟩),.bool false,undef,undef,undef,.pointer (some ⟨l4.heap.size,0,none⟩),.pointer (some ⟨l4.heap.size+1,0,none⟩),zu,zu,zu,zu,zu,zu,zu,zu,zu,.agg #[.int .i64 A1,.int .i64 D1,.bool k1],undef,.agg #[.int .i64 A2,.int .i64 D2,.bool k2],zu,zu,zu,zu,zu,zu,zu,zu,zu,zu,zu,zu,zu,zu,zu,zu,zu,zu,zu,zu,zu,zu,zu,zu,zu,zu,zu,zu,zu]) ?_;refine .cons (ZbL.agg (l:=[.slice pA np pc,.slice eA en ec]) (.cons (hB.fp.mono hX45) (.cons (hB.fe.mono hX45) .nil))) ?_;repeat first
   |exact .nil|refine .cons undefR ?_|refine .cons (.int _ _) ?_|refine .cons (.bool _) ?_|refine .cons (Zeq (.inr (.inl rfl))) ?_|refine .cons (Zeq (.inr (.inr (.inl rfl)))) ?_|refine .cons (Zeq (.inr (.inr (.inr rfl)))) ?_|refine .cons (ZbL.agg (l:=[.int .i64 A1,.int .i64 D1,.bool k1]) (.cons (.int _ _) (.cons (.int _ _) (.cons (.bool _) .nil)))) ?_|refine .cons (ZbL.agg (l:=[.int .i64 A2,.int .i64 D2,.bool k2]) (.cons (.int _ _) (.cons (.int _ _) (.cons (.bool _) .nil)))) ?_
 case tail=>exact ZrJ (u:=Zfm parts A1 D1 A2 D2 k1 k2) (ZrE _ _ _ parts A1 D1 A2 D2 k1 k2 (l.heap.size+1) l4.heap.size (l4.heap.size+1) (l5.re t d) m5 n13 n14 hk1 hk2) fun w=>hbt
 case hu=>
  obtain⟨⟨h1,h2⟩,h3⟩:=h;rcases h1 with(h1|h1)|h1;·exact h1
  ·exact h2 h1
  ·exact h3 h1
 case hsol=>have h':v=ZbK np es lows ups parts:=h;subst h';unfold ZbK;split<;>simp[ZaO]
section
variable {E1:Env} {sh:Nat->Prop} {B:Blk} {bs':List Frame} {l w:World}
theorem Zly{a:Addr} {v:Value} (h:l.cell? a=some v):∃c T f,l.heap[a.block]?=some (.cells c T f):=by unfold World.cell? at h;cases hh:l.heap[a.block]? with|none=>rw[hh]at h;cases h|some ob=>rw[hh]at h;cases ob with|cells c T f=>exact⟨c,T,f,rfl⟩|_=>cases h
theorem ZrM(hw:WR E1 ⟨sh,fun _=>False⟩ B l w) {b b' o:Nat} (hb:B b b') {v:Value} (hv:l.cell? ⟨b,o,none⟩=some v):∃v',VR E1 B v v':=by obtain⟨v',_,h⟩:=Zgz hw (.mk b b' o none hb) hv;exact⟨v',h⟩
theorem ZrN{E:Env} {b o n c:Nat} {s:Option Nat} {v:Value} (h:VR E B (.slice (some ⟨b,o,s⟩) n c) v)(hz:E.z0=false):∃b',B b b':=by cases h with
 |slice _ _ _ _ ha=>cases ha with|mk _ b4 _ _ hb4=>exact⟨b4,hb4⟩
 |slice0 _ h=>rw[hz]at h;cases h
theorem ZrO(hz1:E1.z0=false) (hw:WR E1 ⟨sh,fun _=>False⟩ B l w) {A:Option Addr} {n c:Nat} {es:List En} (hf:VR EnvS (idX (ZZ B l)) (.slice A n c) (.slice A n c)) (hne:∀x∈es,x.co≠[]) (h:Zaw l A es):Zaw (sanW EnvS (ZZ B l) (ZZ B l) l) A es:=by
 have hX:∀b o s,A=some ⟨b,o,s⟩->ZZ B l b:=fun b o s e=>by subst e;exact Zfl hf
 have hco:∀x∈es,∀b o s,x.A=some ⟨b,o,s⟩->ZZ B l b:=by
  intro x hx b o s e;obtain⟨k,hk'⟩:=ZvQ hx;obtain⟨b',o',h1,h2,h3⟩:=h.1 k x hk';have h4:=h3 1 _ rfl;obtain⟨⟨b2,hb2⟩,_⟩:=hX _ _ _ h1;obtain⟨v',hv'⟩:=ZrM hw hb2 h4;rw[e]at hv';have hlt:0<x.co.length:=by have:=hne x hx;cases hc:x.co with
   |nil=>exact absurd hc this|cons _ _=>simp
  obtain⟨b3,o3,g1,_,g3⟩:=h.2 x hx 0 _ (ZvL hlt);have g4:=Zly (g3 0 _ rfl);rw[e]at g1;cases g1;exact⟨ZrN hv' hz1,g4⟩
 refine⟨fun k x hx=>?_,fun x hx k z hz=>?_⟩;·obtain⟨b,o,h1,h2,h3⟩:=h.1 k x hx;refine⟨b,o,h1,by rw[ZbE];exact h2,fun j v hv=>Zd4 (h3 j v hv) ?_⟩;match j,hv with
  |0,hv=>cases hv;exact .string _|1,hv=>cases hv;exact Zii (hco x (Zwn hx))|2,hv=>cases hv;exact .int _ _|j+3,hv=>cases hv
 ·obtain⟨b,o,h1,h2,h3⟩:=h.2 x hx k z hz;refine⟨b,o,h1,by rw[ZbE];exact h2,fun j v hv=>Zd4 (h3 j v hv) ?_⟩;cases j with|zero=>cases hv;exact .int _ _|succ j=>cases hv
theorem Zlz{A:Option Addr} {ws:List Int} {X Y:Nat->Prop} (h:At 1 Zc l A ws):At 1 Zc (sanW EnvS X Y l) A ws:=fun k z hz=>by obtain⟨b,o,h1,h2,h3⟩:=h k z hz;refine⟨b,o,h1,by rw[ZbE];exact h2,fun j v hv=>Zd4 (h3 j v hv) ?_⟩;cases j with|zero=>cases hv;exact .int _ _|succ j=>cases hv
theorem ZlA(hP:E1.P=prog)(hdf:∀f,E1.dfr f=false)(hz1:E1.z0=false) {pA eA loA upA:Option Addr} {np pc en ec lc uc:Nat} {es:List En} {lows ups:List Int} {parts:Int} {fa:Frame} {cs cb:List Frame} (hR:RightE es np)(hE:Zaw l eA es)(hen:es.length=en)(h1:1<=np)(h5:np<=5)(hne:∀x∈es,x.co≠[])(hL:LtAt l loA np es lows)(hU:At 1 Zc l upA ups)(hun:ups.length=np)(hus:Small 400 ups)(hmx:∀m d p,solvedL np (exs es) (Zaf ups)=some (m,d,p)->m.length=np/\Small 1228800000000000 m) (hk1:ZcK np es lows parts) (hk2:ZcK np es (Zaf ups) parts)(np':VR EnvS (idX (ZZ B l)) (.slice pA np pc) (.slice pA np pc)) (ne':VR EnvS (idX (ZZ B l)) (.slice eA en ec) (.slice eA en ec)) (nl':VR EnvS (idX (ZZ B l)) (.slice loA np lc) (.slice loA np lc)) (nu':VR EnvS (idX (ZZ B l)) (.slice upA np uc) (.slice upA np uc))(h:Rel E1 sh bs' B (Frame.enter E1.P 69 #[.agg #[.slice pA np pc,.slice eA en ec],.slice loA np lc,.slice upA np uc,.int .i64 parts] .normal) cs l fa cb w):ZcX prog fa w fun v=>v=ZbK np es lows ups parts:=by
 intro Post c ca gs sl t q h0 hLv hPa kk;have hnice:∀v∈(#[.agg #[.slice pA np pc,.slice eA en ec],.slice loA np lc,.slice upA np uc,.int .i64 parts]:Array Value),VR EnvS (idX (ZZ B l)) v v:=by
  intro v hv;simp only[Zwq,Zwi,Zwt,or_false]at hv;rcases hv with rfl|rfl|rfl|rfl;·exact ZbL.agg (l:=[.slice pA np pc,.slice eA en ec]) (.cons np' (.cons ne' .nil))
  ·exact nl'
  ·exact nu'
  ·exact .int _ _
 obtain⟨hcl,hrel⟩:=Zoi (S:=EnvS) (E2:=Zau) (fn:=Tryz.f69) (body:=Tryz.f69.body.getD .skip) (by rw[hP];rfl) ⟨rfl,hz1,ZfT.good⟩ rfl rfl rfl (fun _=>rfl) (fun _=>rfl) hdf (c::ca) (by rw[hP];exact func69) rfl (by kernel_rfl) hnice h;rw[hP]at hrel;have hlt:∀b,ZZ B l b->b<l.heap.size:=fun b hb=>by obtain⟨_,_,_,_,hc⟩:=hb;exact(Zuo.1 hc).1
 have hg:prog.globals.size<=l.heap.size:=by have:=h.wr.gsz.1;rw[hP]at this;exact this
 have hBt:BtAt (sanW EnvS (ZZ B l) (ZZ B l) l) pA eA np pc en ec es (ZZ B l):={R:=hR,E:=ZrO hz1 h.wr ne' hne hE,hen:=hen,h1:=h1,h5:=h5,hX:=hcl,fp:=np',fe:=ne',gsz:=by rw[ZbE];exact hg};have hLt:LtAt (sanW EnvS (ZZ B l) (ZZ B l) l) loA np es lows:={hL with W:=Zlz hL.W};have hbl:=ZrL (W0:=w) (Post:=Post) (sh:=ZZ B l) (bs:=c::ca) (lc:=lc) (uc:=uc) (parts:=parts) hBt hLt (Zlz hU) hun hus hmx nl' nu' (fun b hb=>hb) (fun b hb=>by rw[ZbE];exact hlt b hb) hk1 hk2 rfl fun hv hK a b d=>kk hv hK a b d;have hgo:=ZeS Zdy rfl (fun k j hj=>by cases hj) hbl ⟨ZZ B l,c::ca,B.on (ZZ B l),_,[ZD prog],sanW EnvS (ZZ B l) (ZZ B l) l,fun _ _ _=>True⟩ rfl rfl rfl rfl ⟨l.tape,l.drawn,rfl⟩;exact Zn1 (E:=Zau) (n:=⟨ZZ B l,c::ca,B.on (ZZ B l),_,[ZD prog],sanW EnvS (ZZ B l) (ZZ B l) l,fun _ _ _=>True⟩) h0 hLv hPa hrel (fun b x (hb:B.on (ZZ B l) b x)=>hb.2) hgo.go
end
variable {w:World}
def Zer:List Nat:=[0,5,1,2,6,7]
structure GlobOk (w:World):Prop where
 ints:∀g,Zer.contains g=true->∃c T f,w.heap[g]?=some (.cells c T f)/\∀v∈c,∃k n,v=.int k n
 size:prog.globals.size<=w.heap.size
 many:3<w.heap.size/\4<w.heap.size
theorem GlobOk.kept{w':World} (h:GlobOk w)(hk:Kept1 w w'):GlobOk w':=⟨fun g hg=>by obtain⟨c,T,f,h1,h2⟩:=h.ints g hg;exact⟨c,T,f,by rw[hk.heap _ (Zuo.1 h1).1];exact h1,h2⟩,ZwP h.size hk.size,ZwS h.many.1 hk.size,ZwS h.many.2 hk.size⟩
def Z2(w:World):World:={w with heap:=(w.heap.setIfInBounds 3 (.deferred none)).setIfInBounds 4 (.deferred none)}
theorem ZcL(w:World):(Z2 w).heap.size=w.heap.size:=by simp[Z2]
theorem Zes(w:World) {b:Nat} (h5:b≠3)(h6:b≠4):(Z2 w).heap[b]?=w.heap[b]?:=by unfold Z2;rw[Zuw (fun e=>h6 e.symm),Zuw (fun e=>h5 e.symm)]
def awB:Blk:=fun b x=>b=x/\Zer.contains b=true
theorem Zet{g:Nat} (h:Zer.contains g=true):g≠3/\g≠4:=by constructor<;>rintro rfl<;>exact absurd h (by decide)
theorem ZlB{E:Env} (hP:E.P=prog)(hgl:∀g,E.glob g=Zer.contains g)(hdk:∀g,E.dark g=[3,4].contains g) {till:Nat->Prop} {v:World} (h:GlobOk w)(hv:v.heap=w.heap∨v=Z2 w)(ht:∀i q,till ((Z2 w).drawn+i)->(Z2 w).tape ((Z2 w).drawn+i) q=v.tape (v.drawn+i) q):WR E ⟨fun _=>False,till⟩ awB (Z2 w) v:=by
 have hsz:v.heap.size=w.heap.size:=by
  rcases hv with h|rfl;·rw[h]
  ·exact ZcL w
 have hget:∀b,b≠3->b≠4->v.heap[b]?=w.heap[b]?:=by
  rcases hv with h|rfl;·intro b _ _;rw[h]
  ·exact fun b h5 h6=>Zes w h5 h6
 have hlt:∀b,Zer.contains b=true->b<w.heap.size:=fun b hb=>by obtain⟨c,T,f,h1,_⟩:=h.ints b hb;exact(Zuo.1 h1).1
 refine⟨fun b b' c' x y=>x.1.symm.trans y.1,fun b c b' x y=>x.1.trans y.1.symm,fun b b' x=>?_,fun b b' x _=>?_,fun b b' _ x=>x.elim,ht,fun g hg=>⟨rfl,by rw[<-hgl];exact hg⟩,fun b b' x=>by rw[x.1],⟨by rw[hP,ZcL];exact h.size,by rw[hP,hsz];exact h.size⟩,fun _=>⟨fun _ x=>x,by rw[ZcL,hsz],fun b b' x=>x.1⟩,fun g hg=>?_⟩;·obtain⟨rfl,hb⟩:=x;rw[ZcL,hsz];exact⟨hlt b hb,hlt b hb⟩
 ·obtain⟨rfl,hb⟩:=x;obtain⟨c,T,f,h1,h2⟩:=h.ints b hb;obtain⟨n5,n6⟩:=Zet hb;refine⟨_,_,(Zes w n5 n6).trans h1,(hget b n5 n6).trans h1,.cells c c T f ⟨rfl,fun i u u' hu hu'=>?_⟩⟩;rw[hu]at hu';cases hu';obtain⟨k,n,rfl⟩:=h2 u (ZuD hu);exact .int k n
 ·rw[hdk]at hg;have hg':g=3∨g=4:=by simpa using hg
  have hm:=h.many;refine⟨?_,fun b' x=>?_⟩
  ·unfold Z2;rcases hg' with rfl|rfl;·rw[Zuw (by decide),Zux (by omega)]
   ·rw[Zux (by simp;omega)]
  ·have:=Zet x.2;rcases hg' with rfl|rfl;·exact this.1 rfl
   ·exact this.2 rfl
theorem ZrP(h:GlobOk w):Self ZK (fun _=>False) awB (Z2 w):=⟨ZlB (E:=ZK) rfl (fun _=>rfl) (fun _=>rfl) h (.inr rfl) (fun _ _ _=>rfl),fun _ x=>x.elim,fun b b' x=>x.1⟩
theorem ZlC:Frame.enter prog 7 #[] .normal=(Go.Conc.base 7).at ⟨Array.replicate 84 undef,[]⟩ [.code (Tryz.f7.body.getD .skip)]:=by
 rw[enter_at (fn:=Tryz.f7) (c:=Tryz.f7.body.getD .skip) _ func7 rfl];have e:Tryz.f7.ntmps=84:=by kernel_rfl
 rw[e];simp
theorem ZrQ{u:Value} (hg:GlobOk w)(hL:∀(Post:Value->World->Prop)(c:Frame)(ca:List Frame),(∀f l',Ret prog (fun v _=>v=u) f [ZD prog] l'->f.fn=7->(∀x,x<(Z2 w).heap.size->l'.heap[x]?=(Z2 w).heap[x]?)->StopG ZM Post w (Z2 w) awB (fun _=>False) (c::ca) f [ZD prog] l')->LG ZM (StopG ZM Post w (Z2 w) awB (fun _=>False) (c::ca)) (Frame.enter prog 7 #[] .normal) [ZD prog] (Z2 w)) (hu:ZaO 8 u=true):ZcX prog (Frame.enter prog 7 #[] .normal) w fun v=>v=u:=by
 intro Post c ca gs sl t q h0 hLv hP kk;have hst:=hL Post c ca fun f l' hret hfn hkeep=>ZoC (E:=ZM) (u:=u) rfl hret (fun v t d h=>h) hu hkeep fun hk a b d=>kk rfl hk a b d;refine ZfJ (E:=ZM) (l0:=Z2 w) Zhh (fun b x hb=>.inr ⟨hb.1,?_,?_,rfl,rfl⟩) hst h0 hLv hP (B:=awB) ⟨?_,ZlB (E:=ZM) rfl (fun _=>rfl) (fun _=>rfl) hg (.inl rfl) (fun _ _ x=>x.elim),fun _ x=>x.elim⟩ ⟨Kept1.refl w,fun b x hb _=>hb⟩;·obtain⟨rfl,hb⟩:=hb;obtain⟨cc,T,f,h1,_⟩:=hg.ints b hb;rw[ZcL];exact(Zuo.1 h1).1
 ·obtain⟨rfl,hb⟩:=hb;exact Zes w (Zet hb).1 (Zet hb).2
 ·rw[ZlC];exact .last _ _ (Zd5 (AR.replicate _ undefR) rfl (.cons _ _ _ _ (.code _ ⟨by kernel_rfl,fun h=>(by cases h)⟩) .nil)) rfl
end Go.Proofs
namespace Go.Proofs
open Go.RowKit
section
variable {P:Program}
def spG(ops:Array Oper)(sp:List Nat):Bool:=sp.all fun j=>match ops[j]? with|some _=>true|none=>false
theorem ZlD{Q:Exit->Act->World->Prop} {a0:Act} {w:World} {l:List Oper} (w0:World)(C:World->Prop)(sp:List Nat)(mk:Nat->Gh->Value)(J:(Nat->Bool)->(Nat->Gh)->World->Prop)(af:(Nat->Gh)->Act)(hB:Zam l.toArray=true)(hB':∀g,Zam (mixL sp mk g 0 l).toArray=true)(hS:Region.noSelect l.toArray=true)(hN:spG l.toArray sp=true)(hC0:C w)(hCs:∀x x',C x->Below x.heap.size x x'->C x')(hCw:∀x,C x->Below w0.heap.size w0 x)(h0:∀L,(∀j∈sp,L j=false)->J L (fun _=>Gh.zero) w)(hst:∀L L' g x x',(∀j∈sp,L' j=L j)->J L g x->Below x.heap.size x x'->J L' g x')(hq:∀g u,C u->(∀(x:Grew u)(b o:Nat),b<u.heap.size->x.val.cell? ⟨b,o,none⟩=u.cell? ⟨b,o,none⟩)->Hid (∀x:Grew u,Below w0.heap.size w0 x.val)->Hid (∀x:Grew u,C x.val)->wpQuiet P (mixL sp mk g 0 l).toArray (fun w'=>∃x:Grew u,w'=x.val) (fun a'=>a'=af g) (mixL sp mk g 0 l) a0)(hind:∀j∈sp,∀g h,Zap (Zas l.toArray j 0 l []) 0 (af g).tmps.toList=Zap (Zas l.toArray j 0 l []) 0 (af (upd g j h)).tmps.toList)(hwa:∀g,∀j∈sp,∀o,l.toArray[j]?=some o->Region.wanted o (yielded l.toArray (af g).tmps)=true)(hsp:∀j∈sp,∀o,l[j]?=some o->∀(L:Nat->Bool)(g:Nat->Gh)(x:World),J L g x->C x->Below w0.heap.size w0 x->L j=false->(∀e∈o.after,Region.binds .any e=true->L e.on=true)->(∀(i:Nat)(o:Oper),l[i]?=some o->L i=true->∀e∈o.after,Region.binds .any e=true->L e.on=true)->ZbU P (fun v x'=>C x'/\((o.dst=none/\J (ZaT L j) g x')∨∃h,v=mk j h/\J (ZaT L j) (upd g j h) x')) ((execOp (af g).eval o).run P x))(hend:∀g x,J (fun _=>true) g x->C x->Below w0.heap.size w0 x->Q .normal (af g) x):wpAny P .any l.toArray Q l.toArray.size (Array.replicate l.toArray.size false) a0 {w with drawn:=w.drawn+1}:=by
 have H:=ZdD hB;have H':=fun g=>ZdD (hB' g);have hsel:=Region.noSelect_spec hS;have get':∀g (j:Nat),(mixL sp mk g 0 l).toArray[j]?=(l.toArray[j]?).map fun o=>if sp.contains j then yieldsC (mk j (g j)) o else o:=fun g j=>by have:=ZdF sp mk g l 0 j;simpa using this
 have hdst:∀(g:Nat->Gh)(j:Nat)(o:Oper),(if sp.contains j=true then yieldsC (mk j (g j)) o else o).dst=o.dst:=fun g j o=>by split<;>rfl
 have hyd:∀(g:Nat->Gh)(t:Array Value)(k:Nat),yielded (mixL sp mk g 0 l).toArray t k=yielded l.toArray t k:=fun g t k=>by unfold yielded;rw[get'];cases l.toArray[k]? with
  |none=>rfl|some o=>simp only[Zxg,Zxc,hdst]
 have hwt:∀(g:Nat->Gh)(o:Oper)(t:Array Value),Region.wanted o (yielded (mixL sp mk g 0 l).toArray t)=Region.wanted o (yielded l.toArray t):=fun g o t=>by have:yielded (mixL sp mk g 0 l).toArray t=yielded l.toArray t:=funext (hyd g t);rw[this]
 have hsel':∀(g:Nat->Gh)(j:Nat)(o:Oper) cs b,(mixL sp mk g 0 l).toArray[j]?=some o->o.op≠.select cs b:=fun g j o cs b ho=>by rw[get']at ho;cases hj:l.toArray[j]? with
  |none=>rw[hj]at ho;cases ho|some o'=>
   rw[hj]at ho;simp only[Zxg,Zxi]at ho;subst ho;split;·simp[yieldsC]
   ·exact hsel j o' cs b hj
 have hfin:=fun g u hu=>ZhH (H' g) (hsel' g) (mixL sp mk g 0 l) 0 a0 (fun j=>by simp) (hq g u hu (fun x=>x.cell) (fun x=>hCw _ (hCs _ _ hu x.ok)) (fun x=>hCs _ _ hu x.ok));have hsz:∀g,a0.tmps.size=(af g).tmps.size:=fun g=>(hfin g w hC0).2.1;have hdf:∀g,a0.defers=(af g).defers:=fun g=>(hfin g w hC0).2.2.1;have hun:∀(g:Nat->Gh)(s:Nat),(∀(j:Nat)(oj:Oper),l.toArray[j]?=some oj->oj.dst≠some s)->a0.tmps[s]?=(af g).tmps[s]?:=fun g s hs=>(hfin g w hC0).2.2.2 s fun j oj _ hj hd=>by rw[get']at hj;cases hjj:l.toArray[j]? with|none=>rw[hjj]at hj;cases hj|some o'=>rw[hjj]at hj;simp only[Zxg,Zxi]at hj;exact hs j o' hjj (by rw[<-hd,<-hj];exact(hdst g j o').symm)
 have hquiet:∀(g:Nat->Gh)(i:Nat)(o:Oper),i∉sp->l.toArray[i]?=some o->∀u,C u->∃v,YieldsIn P l.toArray (above u) o v (af g)/\∀s,o.dst=some s->s<(af g).tmps.size->(af g).tmps[s]?=some v:=by
  intro g i o hi ho u hu;have hc:sp.contains i=false:=by simpa using hi
  have ho':(mixL sp mk g 0 l).toArray[i]?=some o:=by rw[get',ho];simp[hi]
  obtain⟨v,hy,hv⟩:=(hfin g u hu).1 i o (Zxa _) ho';refine⟨v,?_,hv⟩;rw[Zkq];unfold YieldsIn at*;rwa [hwt]at hy
 have hres:∀(g:Nat->Gh)(j:Nat)(o:Oper)(d:Nat),j∈sp->l.toArray[j]?=some o->o.dst=some d->d<(af g).tmps.size->(af g).tmps[d]?=some (mk j (g j)):=by
  intro g j o d hj ho hd hlt;have hc:sp.contains j=true:=by simpa using hj
  have ho':(mixL sp mk g 0 l).toArray[j]?=some (yieldsC (mk j (g j)) o):=by rw[get',ho];simp[hj]
  obtain⟨v,hy,hv⟩:=(hfin g w hC0).1 j _ (Zxa _) ho';have:=hv d hd hlt;rw[this];rcases hy with⟨_,h2⟩|⟨h1,_⟩
  ·have h3:=h2 w ⟨⟨w,ZuK _ _⟩,rfl⟩;unfold Oper.quietAt at h3;have h4:(execOp (af g).eval (yieldsC (mk j (g j)) o)).run P w=.ok (.value (mk j (g j))) w:=by unfold execOp yieldsC;rfl
   rw[h4]at h3;simp only[Oper.quietUpon]at h3;rw[h3.2]
  ·rw[hwt g,show Region.wanted (yieldsC (mk j (g j)) o) (yielded l.toArray (af g).tmps)=Region.wanted o (yielded l.toArray (af g).tmps)from rfl,hwa g j hj o ho]at h1;cases h1
 have hcone:∀(L:Nat->Bool),(∀(i:Nat)(o:Oper),l.toArray[i]?=some o->L i=true->∀e∈o.after,Region.binds .any e=true->L e.on=true)->∀j,L j=false->∀d∈Zas l.toArray j 0 l [],∃(i:Nat)(o:Oper),l.toArray[i]?=some o/\o.dst=some d/\L i=false:=by
  intro L hcl j hj;refine ZhI (G:=fun d=>∃(i:Nat) (o:Oper),l.toArray[i]?=some o/\o.dst=some d/\L i=false) ?_ l 0 [] (fun k=>by simp) (fun d hd=>by simp at hd);intro i o d ho hd hor;refine⟨i,o,ho,hd,?_⟩;rcases hor with rfl|⟨s,hs,i',o',ho',hd',hL⟩;·exact hj
  ·obtain⟨_,e,he,hb,hon⟩:=H.look i o s i' o' ho hs ho' hd';cases hLi:L i with
   |false=>rfl|true=>have:=hcl i o ho hLi e he hb;rw[hon,hL]at this;cases this
 have hone:∀(listed:Array Bool)(a:Act)(x:World),listed.size=l.toArray.size->Zc6 l.toArray C J af listed a x->Region.ready .any l.toArray listed=[]->Q .normal a x:=by
  rintro listed a x hz ⟨hb,-,g,hag,hJ⟩ hr;have hu:=Zc5 H hz hr;rw[Zkp hag hu];have:(fun j=>listed.getD j true)=fun _=>true:=funext fun j=>by
   by_cases hj:j<l.toArray.size;·exact hu j hj
   ·simp[Zun (show listed.size<=j by omega)]
  rw[this]at hJ;exact hend g x hJ hb (hCw _ hb)
 have hstep:∀(listed:Array Bool)(a:Act)(x:World)(i:Nat),i∈Region.ready .any l.toArray listed->Zc6 l.toArray C J af listed a x->wpOp P l.toArray Q i (fun a' x'=>Zc6 l.toArray C J af (listed.setIfInBounds i true) a' x') a x:=by
  rintro listed a x i hi ⟨hb,hcl,g,hag,hJ⟩;obtain⟨hiu,o,ho,hall⟩:=mem_ready.1 hi;have hlk:=Zkn H hag ho hi;have hcl':∀(i':Nat)(o':Oper),l.toArray[i']?=some o'->(listed.setIfInBounds i true).getD i' true=true->∀e∈o'.after,Region.binds .any e=true->(listed.setIfInBounds i true).getD e.on true=true:=by
   intro i' o' ho' hL e he hbd;have key:listed.getD e.on true=true:=by
    by_cases hii:i=i';·subst hii;obtain rfl:o=o':=Zxh (ho.symm.trans ho');exact ZdE (hall e he hbd)
    ·rw[getD_set_ne true hii]at hL;exact hcl i' o' ho' hL e he hbd
   by_cases hon:i=e.on;·rw[hon,Zf2]
   ·rw[getD_set_ne true hon];exact key
  by_cases hisp:i∈sp
  ·have hd:=hsp i hisp o (by simpa using ho) _ g x hJ hb (hCw _ hb) hiu (fun e he hbd=>ZdE (hall e he hbd)) (fun i' o' ho'=>hcl i' o' (by simpa using ho'));rw[<-ZhE (hsel i o · · ho) hlk]at hd;unfold wpOp;simp only[ho];have hwn:Region.wanted o (yielded l.toArray a.tmps)=true:=by rw[Zkk hlk];exact hwa g i hisp o ho
   rw[if_pos hwn];refine .inl (Zku hd ?_);rintro v x' ⟨hb',hK⟩;refine⟨hb',hcl',?_⟩;rw[Zkv];rcases hK with⟨hdn,hJ'⟩|⟨h,rfl,hJ'⟩;·exact⟨g,Zf1 H hag ho (fun s hs=>by rw[hdn]at hs;cases hs),hJ'⟩
   ·refine⟨upd g i h,⟨by rw[Ze6];exact hag.1.trans ((hsz g).symm.trans (hsz _)),by rw[ZfY];exact hag.2.1.trans ((hdf g).symm.trans (hdf _)),fun s hs=>?_⟩,hJ'⟩;by_cases hds:o.dst=some s
    ·rw[hds];by_cases hlt:s<(af (upd g i h)).tmps.size;·rw[ZfZ (by rw[hag.1,<-hsz g,hsz (upd g i h)];exact hlt),hres _ i o s hisp ho hds hlt];unfold upd;rw[if_pos rfl]
     ·rw[ZhG (by rw[hag.1,<-hsz g,hsz (upd g i h)];exact hlt),Zun (by omega)]
    ·rw[Ze5 hds];have hs':∀(j:Nat)(oj:Oper),l.toArray[j]?=some oj->oj.dst=some s->listed.getD j true=true:=fun j oj hj hdj=>by
      have hij:i≠j:=by rintro rfl;obtain rfl:o=oj:=Zxh (ho.symm.trans hj);exact hds hdj
      have:=hs j oj hj hdj;rwa [getD_set_ne true hij]at this
     rw[hag.2.2 s hs'];refine Zkt (hind i hisp g h) fun hc=>?_;obtain⟨j,oj,hj,hdj,hL⟩:=hcone (fun j=>listed.getD j true) hcl i hiu s hc;have:=hs' j oj hj hdj;rw[this]at hL;cases hL
  ·obtain⟨v,hy,hv⟩:=hquiet g i o hisp ho x hb;have hy':=ZhF (hsel i o · · ho) (fun s hs=>(hlk s hs).symm) hy;refine Zko ho hy' (ZuK _ _) fun x' hx'=>⟨hCs _ _ hb hx',hcl',g,Zf1 H hag ho hv,?_⟩;refine hst _ _ g x x' (fun j hj=>?_) hJ hx';have hij:i≠j:=by rintro rfl;exact hisp hj
   rw[getD_set_ne true hij]
 have hloop:∀(f:Nat)(listed:Array Bool)(a:Act)(x:World),listed.size=l.toArray.size->Zee l.toArray.size listed<=f->Zc6 l.toArray C J af listed a x->wpAny P .any l.toArray Q f listed a x:=by intro f;induction f with
  |zero=>
   intro listed a x hz hf h;have hr:Region.ready .any l.toArray listed=[]:=by rw[Zvv];intro i hi;obtain⟨hiu,o,ho,_⟩:=mem_ready.1 hi;have:=Zf0 (n:=l.toArray.size) (Zan ho) hiu;omega
   exact⟨hr,hone listed a x hz h hr⟩|succ f ih=>intro listed a x hz hf h;refine⟨fun hr=>hone listed a x hz h hr,fun i hi=>?_⟩;obtain⟨hiu,o,ho,_⟩:=mem_ready.1 hi;have hl:=Zf0 (n:=l.toArray.size) (Zan ho) hiu;exact wpOp_mono (fun a' x' h'=>ih _ a' x' (by simpa using hz) (by omega) h') (hstep listed a x i hi h)
 have hL0:∀j,j<l.length->(Array.replicate l.toArray.size false).getD j true=false:=fun j hj=>by simp[hj]
 refine hloop _ _ _ _ (by simp) ?_ ⟨hCs _ _ hC0 (ZuK _ w).drew,fun i o ho hL=>?_,fun _=>Gh.zero,⟨hsz _,hdf _,fun s hs=>?_⟩,?_⟩;·unfold Zee;exact ZwP (Zv1 _ _) (by simp)
 ·have hlt:=Zan ho;simp only[Zwy]at hlt;rw[hL0 i hlt]at hL;cases hL
 ·refine hun _ s fun j oj hj hd=>?_;have:=hs j oj hj hd;have hlt:=Zan hj;simp only[Zwy]at hlt;rw[hL0 j hlt]at this;cases this
 ·refine hst _ _ _ w _ (fun _ _=>rfl) (h0 _ fun j hj=>?_) (ZuK _ w).drew;have:∃o,l.toArray[j]?=some o:=by unfold spG at hN;have:=Zve.1 hN j hj;cases ho:l.toArray[j]? with
   |none=>rw[ho]at this;cases this|some o=>exact⟨o,rfl⟩
  obtain⟨o,ho⟩:=this;have hlt:=Zan ho;simp only[Zwy]at hlt;exact hL0 j hlt
end
end Go.Proofs
namespace Go.Proofs
open Tryz
open Go.RowKit
theorem ZlE(n m:Int)(w:World)(hm:m.natAbs<=9000000000000000000):Calls prog 81 #[.int .i64 n,.int .i64 m] w fun e w'=>e=.returned (.bool (Zbf n m))/\w=w':=by have hw:IntKind.i64.wrap (-m)=-m:=Zva _ (by omega);go_enter func81,ntmps81;go_wp2_with (go_at_call 51;refine(Zdz _ _ _ _).mono ?_;rintro e w' ⟨rfl,rfl⟩);go_ret;exact⟨Zck (by simp[Zbf]),rfl⟩
theorem ZlF{α:Type} {P:α->Prop} {l:List α} {k:Nat} {x:α} (hx:l[k]?=some x)(h:∀y∈l.take k,P y)(hp:P x):∀y∈l.take (k+1),P y:=by
 intro y hy;rw[ZwA,hx]at hy;rcases Zwf.1 hy with h1|h1;·exact h y h1
 ·simp at h1;subst h1;exact hp
structure FewR (ps:List Pa)(es:List En):Prop where
 p:ps.length<=4∨(6<=ps.length/\ps.length<=7)
 e:es.length<=4∨(9<=es.length/\es.length<=10)
 pn:∀p∈ps,p.nm.size<=20
 en:∀x∈es,x.nm.size<=20/\x.co.length<=8
theorem FewR.fewB{ps:List Pa} {es:List En} (h:FewR ps es):FewB ps es:=⟨by have:=h.p;omega,by have:=h.e;omega,fun p hp=>by have:=h.pn p hp;omega,fun x hx=>by have:=(h.en x hx).1;omega,fun x hx=>by have:=(h.en x hx).2;omega⟩
def ZrR(ps:List Pa)(es:List En)(e:Ending):Prop:=∃r:Bool,e=.returned (.bool r)/\(r=true->FewR ps es)
theorem ZlG(pA eA:Option Addr)(pc ec pn en:Nat)(ps:List Pa)(es:List En)(w:World)(hB:BookAt w pA pc ps eA ec es)(hpn:ps.length=pn)(hen:es.length=en):Calls prog 8 #[.agg #[.slice pA pn pc,.slice eA en ec]] w fun e w'=>ZrR ps es e/\Below w.heap.size w w':=by
 have hpc:pn<=pc:=by rw[<-hpn];exact hB.pc'
 have hec:en<=ec:=by rw[<-hen];exact hB.ec'
 have hfin:Hid ((pn<=4∨(6<=pn/\pn<=7))->(en<=4∨(9<=en/\en<=10))->(∀p∈ps,p.nm.size<=20)->(∀x∈es,x.nm.size<=20/\x.co.length<=8)->FewR ps es):=Zvc fun h1 h2 h3 h4=>⟨by rw[hpn];exact h1,by rw[hen];exact h2,h3,h4⟩;have hP:=Zvc hB.P;have hE:=Zvc hB.E;have hpn':=Zvc hpn;have hen':=Zvc hen;clear hB hpn hen;by_cases hcn:pn<=7/\(pn<=4∨5<pn);case neg=>
  by_cases n8:4<(pn:Int);all_goals by_cases n40:(pn:Int)<=5
  all_goals by_cases n42:7<(pn:Int)
  all_goals try (exfalso;omega)
  all_goals clear hcn
  all_goals go_enter func8,ntmps8
  all_goals go_wp2
  all_goals go_ret;exact⟨⟨false,rfl,fun h=>nomatch h⟩,by go_grown⟩
 by_cases hcm:en<=10/\(en<=4∨8<en);case neg=>
  by_cases n8:4<(pn:Int);all_goals by_cases n40:(pn:Int)<=5
  all_goals by_cases n42:7<(pn:Int)
  all_goals try (exfalso;omega)
  all_goals by_cases m8:4<(en:Int)
  all_goals by_cases m60:(en:Int)<=8
  all_goals by_cases m62:10<(en:Int)
  all_goals try (exfalso;omega)
  all_goals clear hcn hcm
  all_goals go_enter func8,ntmps8
  all_goals go_wp2
  all_goals go_ret;exact⟨⟨false,rfl,fun h=>nomatch h⟩,by go_grown⟩
 by_cases n8:4<(pn:Int);all_goals by_cases n40:(pn:Int)<=5
 all_goals by_cases n42:7<(pn:Int)
 all_goals try (exfalso;omega)
 all_goals by_cases m8:4<(en:Int)
 all_goals by_cases m60:(en:Int)<=8
 all_goals by_cases m62:10<(en:Int)
 all_goals try (exfalso;omega)
 all_goals
  have hp9:pn<=9:=by omega
  have he9:en<=10:=by omega
  have hcn':=Zvc hcn;have hcm':=Zvc hcm;clear hcn hcm;go_enter func8,ntmps8;go_wp2;clear n8 n40 n42 m8 m60 m62;go_loopw [3] (fun i wr=>∃k:Nat,k<=pn/\i=.int .i64 k/\Hid (∀x∈ps.take k,x.nm.size<=20)/\Below w.heap.size w wr/\wr.heap[w.heap.size]?=some (.cells #[.slice pA pn pc,.slice eA en ec] 25 (0,0)))(fun i _=>pn-(intOf i).toNat);case atStart=>exact⟨0,Zxa _,rfl,by simp[Hid],ZC _ _,by(repeat (first|assumption|(refine Zz _ _ ?_;(simp;done))|refine ZB ?_|refine Zy ?_ _|refine ZA ?_ (by simp<;>omega) _))⟩
  case round=>
   obtain⟨k,hk,rfl,hall,hbw,B0⟩:=hrel;have C0:=bk2 B0;by_cases hlt:k<pn
   ·obtain⟨x,hx⟩:∃x,ps[k]?=some x:=⟨_,ZvL (by rw[hpn'.out];exact hlt)⟩;obtain⟨b,o,rfl,hbl,hc⟩:=(hP.out.below hbw) k x hx;have hx':=Zvc hx;have c0:=hc 0 _ rfl;simp only[ZwK]at c0;have hkI:(k:Int)<(pn:Int):=by omega
    clear hx hc;by_cases g1:20<(x.nm.size:Int);·go_wp2;go_ret;exact⟨⟨false,rfl,fun h=>nomatch h⟩,by go_grown⟩
    ·have hgo:=Zvc (ZlF (P:=fun x:Pa=>x.nm.size<=20) hx'.out hall.out (by omega));go_wp2;go_roundw;case rel=>exact⟨k+1,by omega,by go_num,hgo.out,hbw,B0⟩
     case measure=>simp[intOf]<;>omega
   ·have hkn:k=pn:=by omega
    have hall2:Hid (∀x∈ps,x.nm.size<=20):=Zvc (by have:=hall.out;rwa [ZwC (by rw[hpn'.out];omega)]at this);obtain rfl:pn=k:=hkn.symm;clear hall hlt;go_wp2;go_loopw [4] (fun i wr=>∃q:Nat,q<=en/\i=.int .i64 q/\Hid (∀x∈es.take q,x.nm.size<=20/\x.co.length<=8)/\Below w.heap.size w wr/\wr.heap[w.heap.size]?=some (.cells #[.slice pA pn pc,.slice eA en ec] 25 (0,0)))(fun i _=>en-(intOf i).toNat);case atStart=>exact⟨0,Zxa _,rfl,by simp[Hid],hbw,B0⟩
    case round=>
     clear C0 B0 hbw;obtain⟨k2,hk2,rfl,hall,hbw,B0⟩:=hrel;have C0:=bk2 B0;by_cases hlt2:k2<en
     ·obtain⟨x,hx⟩:∃x,es[k2]?=some x:=⟨_,ZvL (by rw[hen'.out];exact hlt2)⟩;obtain⟨b,o,rfl,hbl,hc⟩:=(hE.out.below hbw).1 k2 x hx;have hx':=Zvc hx;have c0:=hc 0 _ rfl;have c1:=hc 1 _ rfl;simp only[ZwK]at c0;have hkI:(k2:Int)<(en:Int):=by omega
      clear hx hc;by_cases g1:20<(x.nm.size:Int);·go_wp2;go_ret;exact⟨⟨false,rfl,fun h=>nomatch h⟩,by go_grown⟩
      ·by_cases g2:8<(x.co.length:Int);·go_wp2;go_ret;exact⟨⟨false,rfl,fun h=>nomatch h⟩,by go_grown⟩
       ·have hgo:=Zvc (ZlF (P:=fun x:En=>x.nm.size<=20/\x.co.length<=8) hx'.out hall.out ⟨by omega,by omega⟩);go_wp2;go_roundw;case rel=>exact⟨k2+1,by omega,by go_num,hgo.out,hbw,B0⟩
        case measure=>simp[intOf]<;>omega
     ·obtain rfl:en=k2:=by omega
      clear hlt2;go_wp2;go_ret;refine⟨⟨true,rfl,fun _=>hfin.out (by have:=hcn'.out;omega) (by have:=hcm'.out;omega) hall2.out ?_⟩,by go_grown⟩;have:=hall.out;rwa [ZwC (by rw[hen'.out];omega)]at this
end Go.Proofs
namespace Go.Proofs
open Go Go.Lib
def cutL:List UInt8->List (List UInt8)|[]=>[[]]|c::l=>if c=32 then []::cutL l else match cutL l with|h::t=>(c::h)::t|[]=>[[c]]
theorem Zio:∀(a:List UInt8),(∀c∈a,c≠32)->cutL a=[a]|[],_=>rfl|c::a,h=>by unfold cutL;rw[if_neg (h c (List.mem_cons_self ..)),Zio a (fun d hd=>h d (Zwj _ hd))]
theorem Zip:∀(a b:List UInt8),(∀c∈a,c≠32)->cutL (a++32::b)=a::cutL b|[],b,_=>by simp[cutL]|c::a,b,h=>by rw[Zvm,cutL,if_neg (h c (List.mem_cons_self ..)),Zip a b (fun d hd=>h d (Zwj _ hd))]
theorem Ziq(s:List UInt8)(i:Nat):occAt s [32] i=(s[i]?==some 32):=by unfold occAt;cases h:s.drop i with
 |nil=>
  have:s[i]?=none:=by rw[ZvN];exact List.drop_eq_nil_iff.1 h
  rw[this];rfl|cons c l=>
  have:s[i]?=some c:=by rw[<-List.head?_drop,h];rfl
  rw[this];simp only[List.isPrefixOf,Bool.and_true];rw[ZuP];simp only[beq_iff_eq,Zxi];exact⟨fun e=>e.symm,fun e=>e.symm⟩
theorem ZrS:∀(n:Nat)(s:List UInt8),s.length<=n->splitK [32] 0 (count s [32]) s=cutL s:=by intro n;induction n with|zero=>intro s hs;have:s=[]:=Zvw (by omega);subst this;decide+kernel|succ n ih=>
  intro s hs;rcases index_spec s [32]with⟨h,hno⟩|⟨i,h,hi,hoc,hno⟩
  ·rw[count_miss h];have hc:∀c∈s,c≠32:=by intro c hcm e;subst e;obtain⟨j,hj⟩:=ZvQ hcm;have hlt:=(ZvO.1 hj).1;have:=hno j (by omega);rw[Ziq,hj]at this;simp at this
   rw[Zio s hc];rfl
  ·rw[count_hit (by simp) h,ZwH,splitK];have hm:¬(index s [32]==-1)=true:=fun e=>by have:=beq_iff_eq.1 e;omega
   rw[if_neg hm,h];rw[Ziq]at hoc;have hs32:s[i]?=some 32:=by simpa using hoc
   have hlt:=(ZvO.1 hs32).1;have hsplit:s=s.take i++32::s.drop (i+1):=by have e1:=List.getElem_cons_drop hlt;rw[(ZvO.1 hs32).2]at e1;rw[e1,List.take_append_drop]
   have hc:∀c∈s.take i,c≠32:=by
    intro c hcm e;subst e;obtain⟨j,hj⟩:=ZvQ hcm;have hj2:=(ZvO.1 hj).1;rw[Zv5]at hj2;rw[ZvU]at hj;split at hj;·have:=hno j (by omega);rw[Ziq,hj]at this;simp at this
    ·cases hj
   conv=>rhs;rw[hsplit]
   rw[Zip _ _ hc];have e1:((i:Int)).toNat+0=i:=by omega
   have e2:((i:Int)).toNat+[(32:UInt8)].length=i+1:=by simp
   have e3:i+[(32:UInt8)].length=i+1:=rfl;rw[e1,e2,e3,ih (s.drop (i+1)) (by rw[List.length_drop];omega)]
def isDig(c:UInt8):Bool:=decide (48<=c.toNat)&&decide (c.toNat<=57)
def ZdO:Nat->List UInt8->Nat|a,[]=>a|a,c::l=>ZdO (10*a+(c.toNat-48)) l
def Zdd(l:List UInt8):List UInt8:=if l.head?=some 45 then l.tail else l
theorem ZlH:∀(l:List UInt8)(a:Nat)(c:UInt8),ZdO a (l++[c])=10*ZdO a l+(c.toNat-48)|[],a,c=>rfl|d::l,a,c=>by rw[Zvm];unfold ZdO;exact ZlH l _ c
theorem ZlI(u:Nat)(h:u<10):(UInt8.ofNat (48+u)).toNat=48+u:=by rw[UInt8.toNat_ofNat'];omega
theorem Zfn:∀(u:Nat),decDigits u≠[]/\(decDigits u).all isDig=true/\ZdO 0 (decDigits u)=u/\((decDigits u).head?=some 48->u=0):=by intro u;induction u using Nat.strongRecOn with|_ u ih=>
  by_cases h:u<10
  ·rw[decDigits,dif_pos h];have e:=ZlI u h;refine⟨by simp,?_,?_,?_⟩;·simp only[Zvd,List.all_nil,Bool.and_true,isDig,e];simp;omega
   ·show 10*0+((UInt8.ofNat (48+u)).toNat-48)=u;rw[e];omega
   ·intro h2;simp only[List.head?_cons,Zxi]at h2;have e3:(UInt8.ofNat (48+u)).toNat=48:=congrArg UInt8.toNat h2;omega
  ·rw[decDigits,dif_neg h];obtain⟨h1,h2,h3,h4⟩:=ih (u / 10) (by omega);have e:=ZlI (u%10) (by omega);refine⟨by simp,?_,?_,?_⟩;·rw[List.all_append,h2,Bool.true_and];simp only[Zvd,List.all_nil,Bool.and_true,isDig,e];simp;omega
   ·rw[ZlH,h3,e];omega
   ·intro h5;have:(decDigits (u / 10)).head?=some 48:=by cases hd:decDigits (u / 10)with
     |nil=>exact(h1 hd).elim|cons a l=>rw[hd]at h5;simpa using h5
    have:=h4 this;omega
theorem Zir{c:UInt8} (h:isDig c=true):c≠45/\c≠43/\c≠32:=by unfold isDig at h;simp only[ZuM,decide_eq_true_eq]at h;refine⟨?_,?_,?_⟩<;>(intro e;subst e;revert h;decide)
theorem ZlJ{l:List UInt8} (h:l.all isDig=true):¬l.head?=some 45:=by cases l with|nil=>simp|cons c l=>simp only[Zvd,ZuM]at h;intro e;simp only[List.head?_cons,Zxi]at e;exact(Zir h.1).1 e
theorem ZrT(n:Int):Zdd (itoa n)=decDigits n.natAbs/\((itoa n).head?=some 45↔n<0):=by
 obtain⟨h1,h2,h3,h4⟩:=Zfn n.natAbs;unfold Zdd itoa;by_cases hn:n<0;·rw[if_pos hn];simp[hn]
 ·rw[if_neg hn];have e:n.toNat=n.natAbs:=by omega
  rw[e,if_neg (ZlJ h2)];exact⟨rfl,⟨fun h=>(ZlJ h2 h).elim,fun h=>(hn h).elim⟩⟩
theorem ZrU(l:List UInt8):trimPrefix l [45]=Zdd l:=by unfold trimPrefix Zdd hasPrefix;cases l with
 |nil=>rfl|cons c l=>
  by_cases h:c=45;·subst h;simp
  ·have h':¬(45:UInt8)=c:=fun e=>h e.symm;simp[h,h']
theorem ZlK:∀(l:List UInt8)(a:Nat),l.all isDig=true->decFrom a l=some (ZdO a l)|[],a,_=>rfl|c::l,a,h=>by simp only[Zvd,ZuM]at h;have hc:=h.1;unfold isDig at hc;simp only[ZuM,decide_eq_true_eq]at hc;unfold decFrom digitVal ZdO;rw[if_pos hc];dsimp only;rw[ZlK l _ h.2,Nat.mul_comm]
theorem ZlL(u:Nat):decNat (decDigits u)=some u:=by obtain⟨h1,h2,h3,-⟩:=Zfn u;unfold decNat;rw[if_neg (by simpa using h1),ZlK _ _ h2,h3]
theorem ZrV(n:Int):atoi (itoa n)=some n:=by
 unfold itoa;by_cases hn:n<0;·rw[if_pos hn];unfold atoi;dsimp only;rw[if_pos (by decide),ZlL];simp;omega
 ·rw[if_neg hn];obtain⟨h1,h2,h3,-⟩:=Zfn n.toNat;have hd:=ZlL n.toNat;cases hl:decDigits n.toNat with|nil=>exact(h1 hl).elim|cons c l=>rw[hl]at h2 hd;simp only[Zvd,ZuM]at h2;obtain⟨k1,k2,-⟩:=Zir h2.1;unfold atoi;dsimp only;rw[if_neg (by simpa using k1),if_neg (by simpa using k2),hd];simp;omega
theorem ZlM:∀(k u:Nat),u<10^(k+1)->(decDigits u).length<=k+1
 |0,u,h=>by rw[decDigits,dif_pos (by omega)];simp|k+1,u,h=>by
  by_cases h0:u<10;·rw[decDigits,dif_pos h0];simp
  ·rw[decDigits,dif_neg h0,ZvZ];have:=ZlM k (u / 10) (by rw[Nat.pow_succ]at h;omega);simp only[Zv0,Zv3];omega
theorem Zis(k:Nat)(n:Int)(h:n.natAbs<10^(k+1)):(itoa n).length<=k+2/\(Zdd (itoa n)).length<=k+1:=by
 have h1:=ZlM k n.natAbs h;refine⟨?_,by rw[(ZrT n).1];exact h1⟩;unfold itoa;split;·simp only[Zv0];omega
 ·rw[show n.toNat=n.natAbs by omega];omega
theorem ZrW(n:Int):itoa n≠[]/\∀c∈itoa n,c≠32/\c≠10:=by
 have dg:∀u,∀c∈decDigits u,c≠32/\c≠10:=fun u c hc=>by have:=Zve.1 (Zfn u).2.1 c hc;refine⟨(Zir this).2.2,fun e=>?_⟩;subst e;revert this;decide
 unfold itoa;split
 ·refine⟨by simp,fun c hc=>?_⟩;rcases Zwi.1 hc with rfl|hc;·decide
  ·exact dg _ c hc
 ·exact⟨(Zfn _).1,dg _⟩
theorem ZlN(x y:List UInt8)(r:List (List UInt8))(sep:List UInt8):join (x::y::r) sep=x++(sep++join (y::r) sep):=by rw[join_cons,join_cons];simp[joinTail]
theorem ZlO:∀(ws:List (List UInt8)),ws≠[]->(∀x∈ws,∀c∈x,c≠32)->cutL (join ws [32])=ws|[],h,_=>(h rfl).elim|[x],_,h=>by rw[join_one];exact Zio x (h x (by simp))|x::y::r,_,h=>by rw[ZlN];show cutL (x++32::join (y::r) [32])=_;rw[Zip _ _ (h x (by simp)),ZlO (y::r) (by simp) fun z hz=>h z (by simp[hz])]
theorem ZlP(K:Nat):∀(ws:List (List UInt8)),(∀x∈ws,x.length<=K)->(join ws [32]).length<=(K+1)*ws.length|[],_=>by rw[join_nil];simp|[x],h=>by rw[join_one];have:=h x (by simp);simp;omega|x::y::r,h=>by rw[ZlN];have h1:=h x (by simp);have h2:=ZlP K (y::r) fun z hz=>h z (by simp[hz]);simp only[ZvZ,Zv0,Zv3]at h2 |-;rw[Nat.mul_add]at h2 |-;rw[Nat.mul_add];omega
end Go.Proofs
