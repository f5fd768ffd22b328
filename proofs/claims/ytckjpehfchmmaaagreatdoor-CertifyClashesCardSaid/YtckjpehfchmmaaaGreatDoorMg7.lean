import Derived.Test.YtckjpehfchmmaaaGreatDoorMg6
import Derived.Lib.Split
import Derived.Lib.Join
import Derived.Lib.Atoi
import Derived.Lib.ItoaNum
set_option linter.all false
set_option maxRecDepth 100000
set_option maxHeartbeats 16000000
namespace Go
def iK:=@Conc.enter_at
def CR:=@List.take_append_drop
def mI:=@List.mem_toArray
end Go
namespace Go.Proofs
open Tryz
open Go.RowKit
attribute [local go_sem] Oper.semAt_some def cL(l:List Int):List Int:=l.map fun x=>-x
def V'{l:List Int} {j:Nat} {x:Int} (h:l[j]?=some x):cL (l.take (j+1))=cL (l.take j)++[-x]:=by unfold cL;rw[r4,h];simp
def WA(A:Option Addr)(l:List Int)(d c:Nat)(w:World)(G:At 1 Zc w A l)(I:l.length=d)(s:d<=1000)(n:ZN 1000 l):Calls prog 68 #[.slice A d c] w fun e M=>(∃A c,e=.returned (.slice A d c)/\M.ownsRow w.heap.size 3 1 (.slice A d c) d ((cL l).map (Value.int .i64)))/\QB w M:=by
 have t:=i' G;have q:=i' I;have z:=i' n;obtain⟨V,Q,D,E,F⟩:=x0 info3;clear G I n;go_enter func68,ntmps68;go_wp2;go_loopw [3,8] (fun v i wr=>∃j:Nat,j<=d/\i=.int .i64 j/\Hid (wr.ownsRow w.heap.size 3 1 v j ((cL (l.take j)).map (Value.int .i64)))/\QB w wr)(fun _ i _=>d-(intOf i).toNat);case atStart=>exact⟨0,e6 _,rfl,i' (hG _ _ _ _),Qi⟩
 case round=>
  obtain⟨j,Z,rfl,a,g⟩:=hrel;obtain⟨O,c5,rfl⟩:=ZV a.out;by_cases y:j<d
  .have R:(j:Int)<(d:Int):=Qa
   obtain⟨x,r⟩:∃x,l[j]?=some x:=⟨_,h' (by rw[q.out];exact y)⟩;obtain⟨b,o,rfl,P,H⟩:=t.out.below g j x r;have Y:=H 0 _ rfl;simp only[sW,p1]at Y;have C:=i' (V' r);have U:x.natAbs<=1000:=z.out x (e7 r);have T:IntKind.i64.wrap (-x)=-x:=by rw[j0 _ Qa]
   clear H r;go_wp2_with (at_builtin;refine C0 _ rfl _ _ 28 rfl w.heap.size 3 V (.int .i64 0) 1 8 underlying28 Q D E F rfl Qc _ _ _ rfl (a.out.alloc _) ⟨wr.heap.size,0,none⟩ 1 1 [.int .i64 (-x)] rfl rfl ?c1 ?c2 ?c3 ?c4 ?c5 ?_);try (case c1=>exact G1 _ [.int .i64 (-x)] _ Qd)
   case c2=>first|rfl|(intro u L;simp at L;subst L;rfl)
   case c3=>first|omega|(unfold maxLen;omega)
   case c4=>omega
   case c5=>have:=g.size;first|omega|(simp;omega)
   intro W N f p _;have h:=i' (show N.ownsRow w.heap.size 3 1 W (j+1) ((cL (l.take (j+1))).map (Value.int .i64))from by rw[C.out,b4];exact f);have m:QB w N:=ZX (via g (ZB _ _)) p fun b e=>by have:=(a.out.lt b e).1;omega
   clear f p;go_wp2;go_roundw;case rel=>exact⟨j+1,Qa,Qj,h.out,m⟩
   case measure=>exact Qv
  .obtain rfl:d=j:=Qa
   have k:=i' (show l.take d=l by rw[<-q.out,x1]);go_wp2;go_ret;exact⟨⟨O,c5,rfl,by have:=a.out;rwa [k.out]at this⟩,g⟩
end Go.Proofs
namespace Go.Proofs
open Tryz
open Go.RowKit Go.Twin Go.Conc
variable {S:Env} {X:Nat->Prop} {b o n c np:Nat} {s:Option Nat} {A:Option Addr} {l l1:World} {es:List En} {ws:List Int}
attribute [local go_sem] Oper.semAt_some fB fC fD dL fE fP def mJ(h:VR S (idX X) (.slice (some ⟨b,o,s⟩) n c) (.slice (some ⟨b,o,s⟩) n c)) (a:S.z0=false:=by rfl):X b:=by cases h with|slice0 _ h=>rw[a]at h;cases h|slice _ _ _ _ h=>cases h with|mk _ _ _ _ h=>exact h.2
def qZ(h:∀b o s,A=some ⟨b,o,s⟩->X b):VR S (idX X) (.slice A n c) (.slice A n c):=by cases A with|none=>exact .nilSlice _ _|some a=>obtain⟨b,o,s⟩:=a;exact .slice _ _ _ _ (.mk _ _ _ _ ⟨rfl,h b o s rfl⟩)
def sS(h:X b):VR S (idX X) (.pointer (some ⟨b,o,s⟩)) (.pointer (some ⟨b,o,s⟩)):=.ptr _ _ (.mk _ _ _ _ ⟨rfl,h⟩)
def tU{Y:Nat->Prop} (h:∀b,X b->Y b):(idX X).le (idX Y):=fun b a x=>⟨x.1,h _ x.2⟩
def nW(i:hE S X l) {a:Addr} {v:Value} (d:X a.block)(h:l.cell? a=some v):VR S (idX X) v v:=by
 obtain⟨c,T,g,e,f⟩:=i _ d;simp only[World.cell?,e]at h;split at h;·cases h
 .exact f v (bG h)
def wD{α:Type} {r:Nat} {cs:α->List Value} {t:List α} (i:∀b o s,A=some ⟨b,o,s⟩->X b)(d:l.heap.size<=l1.heap.size)(m:∀a v,X a.block->l.cell? a=some v->l1.cell? a=some v)(h:At r cs l A t):At r cs l1 A t:=by intro k x q;obtain⟨b,o,e,f,g⟩:=h k x q;exact⟨b,o,e,h8 f d,fun j v p=>m _ _ (i _ _ _ e) (g j v p)⟩
def CS(w:hE S X l) (C:VR S (idX X) (.slice A n c) (.slice A n c)) (d:l.heap.size<=l1.heap.size) (j:∀a v,X a.block->l.cell? a=some v->l1.cell? a=some v) (h:h7 l A es) (z:S.z0=false:=by rfl):h7 l1 A es:=by
 have i:∀b o s,A=some ⟨b,o,s⟩->X b:=fun b o s e=>by subst e;exact mJ C z
 refine⟨wD i d j h.1,fun x m=>wD (X:=X) (fun b o s e=>?_) d j (h.2 x m)⟩;obtain⟨k,f⟩:=eP m;obtain⟨t,y,p,u,q⟩:=h.1 k x f;have r:=q 1 _ rfl;have g:=nW w (i _ _ _ p) r;rw[e]at g;exact mJ g z
structure BtAt (l:World)(pA eA:Option Addr)(np pc en ec:Nat)(es:List En)(X:Nat->Prop):Prop where
 R:RightE es np
 E:h7 l eA es
 hen:es.length=en
 h1:1<=np
 h5:np<=5
 hX:hE EnvS X l
 fp:VR EnvS (idX X) (.slice pA np pc) (.slice pA np pc)
 fe:VR EnvS (idX X) (.slice eA en ec) (.slice eA en ec)
 gsz:prog.globals.size<=l.heap.size
structure LtAt (l:World)(A:Option Addr)(np:Nat)(es:List En)(ws:List Int):Prop where
 W:At 1 Zc l A ws
 wn:ws.length=np
 hws:ZN 400 ws
 mix:∀m d p,solvedL np (exs es) ws=some (m,d,p)->m.length=np/\ZN 1228800000000000 m
def LtAt.cells(h:LtAt l A np es ws)(j:1<=np):∃b o,A=some ⟨b,o,none⟩/\∃c T f,l.heap[b]?=some (.cells c T f):=by
 have d:0<ws.length:=by rw[h.wn];omega
 obtain⟨b,o,g,_,i⟩:=h.W 0 _ (h' d);refine⟨b,o,g,?_⟩;have a:=i 0 _ rfl;unfold World.cell? at a;cases e:l.heap[b]? with
 |none=>rw[e]at a;cases a|some ob=>rw[e]at a;cases ob with|cells c T f=>exact⟨c,T,f,rfl⟩|_=>cases a
def rS(a:Nat)(A:Option Addr)(n:Nat)(b:Nat):Prop:=b=a∨b=n∨b=n+1∨∃o,A=some ⟨b,o,none⟩
def rT:cV.P=prog:=rfl
def WB:SubG EnvS cV cV:=⟨rfl,rfl,Pl.good⟩
def WC (w:Value) (a:Nat):Frame.enter prog 66 #[w,.pointer (some a)] .normal=(Go.Conc.base 66).at ⟨#[w,.pointer (some a),zu,zu,zu,zu,zu,zu],[]⟩ [.code (Tryz.f66.body.getD .skip)]:=by rw[iK (fn:=Tryz.f66) (c:=Tryz.f66.body.getD .skip) _ func66 rfl];rfl
def WD (a e d:Nat):(Go.Conc.base 67).at ⟨#[.pointer (some a),.pointer (some e),.pointer (some d)]++Array.replicate (Tryz.f67.ntmps-(#[.pointer (some a),.pointer (some e),.pointer (some d)]:Array Value).size) undef,[]⟩ [.code mH]=(Go.Conc.base 67).at ⟨#[.pointer (some a),.pointer (some e),.pointer (some d),zu,zu,zu,zu,zu,zu,zu,zu,zu,zu,zu,zu,zu,zu,zu,zu,zu,zu,zu,zu,zu,zu,zu],[]⟩ [.code mH]:=by rw[show Tryz.f67.ntmps=26 from Qb];walk_nrm
def CU:∃i,prog.info? 131=some i/\i.bytes=24:=by
 have h:(prog.info? 131).map (·.bytes)=some 24:=Qb
 obtain⟨i,d,a⟩:=n2.1 h;exact⟨i,d,a⟩
def CV:∃d,prog.underlying 129=some (.chan d 131):=⟨.both,Qb⟩
def mkE(w:World):(Instr.makeChan 129 (.int .i64 1)).run prog w=.ok (.chan (some w.heap.size)) (w.alloc (.chan 1 #[] false 0 0 false)):=by obtain⟨i,f,a⟩:=CU;obtain⟨d,e⟩:=CV;simpa using run_makeChan (P:=prog) (w:=w) e f .i64 1 Qa (by rw[a];omega)
def WE(w:World)(es:Array Event):(Instr.makeChan 129 (.int .i64 1)).events prog w es=es:=by obtain⟨i,f,a⟩:=CU;obtain⟨d,e⟩:=CV;simpa using events_makeChan (P:=prog) (w:=w) e f .i64 1 Qa (by rw[a];omega) es
def JF{W0:World} {J:Nat->Option Job} {U:Nat->Prop} {Post:Value->World->Prop} {sh:Nat->Prop} {bs:List Frame} {pA eA d:Option Addr} {pc en ec wc g:Nat} {c:Frame} {cs:List Frame} (hJ:∀k j,J k=some j->dG cV j)(hB:BtAt l pA eA np pc en ec es X)(hL:LtAt l d np es ws)(aF:∀b,X b->sh b)(b0:l.cell? g=some (.slice pA np pc))(b1:l.cell? ⟨g,1,none⟩=some (.slice eA en ec))(aK:cs≠[])(kk:∀t K l',W0.heap.size<=t->0<K->J K=none->hE EnvS (fun b=>X b∨rS g d l.heap.size b) l'->(∀a v,l.cell? a=some v->VR EnvS (idX fun b=>X b∨rS g d l.heap.size b) v v->l'.cell? a=some v)->l.heap.size+2=l'.heap.size->(∀b,b<l.heap.size->¬rS g d l.heap.size b->l'.heap[b]?=l.heap[b]?)->LG cV (StopK cV W0 (Go.ConcN.upd J K (some ⟨t,fun v=>v=wkV np es ws,[bot prog],fS prog 67 t (fun v=>v=wkV np es ws)⟩)) (fun x=>U x∨x=K) none Post (fun b=>sh b∨rS g d l.heap.size b) bs) (c.finish (.chan (some t))) cs l'):LG cV (StopK cV W0 J U none Post sh bs) (Frame.enter prog 66 #[.slice d np wc,.pointer (some g)] .normal) (c::cs) l:=by
 rw[WC];simp only[Tryz.f66,y'];refine cO ZU ?_;refine cT ZU ?_;simp only[A8,L',w9,Nat.reduceAdd,w0,List.range,List.range.loop];refine ZS ZU rfl rfl Qc Qb (fun y u K m p=>?_);simp only[rT];go_simp;first|refine m _ _ ?_|refine p _ ?_
 clear m p K y u;try walk_nrm
 refine ZS ZU rfl rfl Qc Qb (fun y u K m p=>?_);simp only[rT];go_simp;first|refine m _ _ ?_|refine p _ ?_
 clear m p K y u;try walk_nrm
 refine cU ZU ?_;refine cO ZU ?_;refine cT ZU ?_;simp only[A8,L',w9,Nat.reduceAdd,w0,List.range,List.range.loop];refine .stop _ _ _ (PT rfl Qd rfl rfl (fun a w=>?hr1) (fun a w=>?he1) fun t aH=>?_);case hr1=>have:=mkE w;simp only[rT];simp[go_sem,execOp,this,Act.eval]
 case he1=>have h1:=mkE w;have H:=WE w;simp only[rT];simp[go_sem,execOp,h1,H,Act.eval]
 refine lZ kY rfl hJ ?_;walk_nrm;refine ZS ZU rfl rfl Qc Qb (fun y u K m p=>?_);simp only[rT];go_simp;first|refine m _ _ ?_|refine p _ ?_
 clear m p K y u;try walk_nrm
 refine ZS ZU rfl rfl Qc Qb (fun y u K m p=>?_);simp only[rT];go_simp;first|refine m _ _ ?_|refine p _ ?_
 clear m p K y u;try walk_nrm
 refine cU ZU ?_;refine cO ZU ?_;refine cT ZU ?_;simp only[A8,L',w9,Nat.reduceAdd,w0,List.range,List.range.loop];refine ZS ZU rfl rfl Qc Qb (fun y u K m p=>?_);simp only[rT];go_simp;first|refine m _ _ ?_|refine p _ ?_
 clear m p K y u;try walk_nrm
 have i:∀b,b<l.heap.size->(((l.alloc (.cells #[.slice d np wc] 28)).alloc (.cells #[.chan (some t)] 129))).heap[b]?=l.heap[b]?:=fun b O=>by show ((l.heap.push _).push _)[b]?=_;rw[cX Qk,nP O,y1 O]
 have n0:(((l.alloc (.cells #[.slice d np wc] 28)).alloc (.cells #[.chan (some t)] 129))).heap[l.heap.size]?=some (.cells #[.slice d np wc] 28):=by show ((l.heap.push _).push _)[l.heap.size]?=_;rw[dZ,dZ];simp
 have n1:(((l.alloc (.cells #[.slice d np wc] 28)).alloc (.cells #[.chan (some t)] 129))).heap[l.heap.size+1]?=some (.cells #[.chan (some t)] 129):=by show ((l.heap.push _).push _)[l.heap.size+1]?=_;rw[dZ];simp
 have r:(((l.alloc (.cells #[.slice d np wc] 28)).alloc (.cells #[.chan (some t)] 129))).heap.size=l.heap.size+2:=Qd
 obtain⟨wb,wo,M,aI⟩:=hL.cells hB.h1;have L:∀{b:Nat} {o:Obj},l.heap[b]?=some o->b<l.heap.size:=fun h=>(bP.1 h).1;have aG:∃c T f,l.heap[g]?=some (.cells c T f):=by have H:=b0;unfold World.cell? at H;cases hh:l.heap[g]? with|none=>rw[hh]at H;cases H|some ob=>rw[hh]at H;cases ob with|cells c T f=>exact⟨c,T,f,rfl⟩|_=>cases H
 obtain⟨G,aA⟩:=Qu ((l.alloc (.cells #[.slice d np wc] 28)).alloc (.cells #[.chan (some t)] 129));rw[aA]at i n0 n1 r |-;clear aA;have hY:∀b,rS g d l.heap.size b->∃c T f,G.heap[b]?=some (.cells c T f):=by
  rintro b (rfl|rfl|rfl|⟨o,ho⟩);·obtain⟨c,T,f,h⟩:=aG;exact⟨c,T,f,by rw[i _ (L h)];exact h⟩
  .exact⟨_,_,_,n0⟩
  .exact⟨_,_,_,n1⟩
  .rw[M]at ho;cases ho;obtain⟨c,T,f,h⟩:=aI;exact⟨c,T,f,by rw[i _ (L h)];exact h⟩
 have C:hE EnvS X G:=fun b O=>by obtain⟨c,T,f,h1,H⟩:=hB.hX b O;exact⟨c,T,f,by rw[i _ (L h1)];exact h1,H⟩
 have z:(idX X).le (idX ((fun b=>X b∨rS g d l.heap.size b))):=tU fun b=>.inl;have q:∀a v,l.cell? a=some v->VR EnvS (idX ((fun b=>X b∨rS g d l.heap.size b))) v v->(sanW EnvS ((fun b=>X b∨rS g d l.heap.size b)) (rS g d l.heap.size) G).cell? a=some v:=fun a v D hn=>lG (H' i D) hn;have I:∀a v,X a.block->l.cell? a=some v->(sanW EnvS ((fun b=>X b∨rS g d l.heap.size b)) (rS g d l.heap.size) G).cell? a=some v:=fun a v hx D=>q a v D ((nW hB.hX hx D).mono z);have Z:VR EnvS (idX ((fun b=>X b∨rS g d l.heap.size b))) (.slice d np wc) (.slice d np wc):=qZ fun b o s e=>by rw[M]at e;cases e;exact .inr (.inr (.inr (.inr ⟨_,M⟩)))
 have Q:(sanW EnvS ((fun b=>X b∨rS g d l.heap.size b)) (rS g d l.heap.size) G).cell? ⟨l.heap.size+1,0,none⟩=some (.chan (some t)):=lG (by simp[World.cell?,n1]) (.chan _);have aC:WkAt (sanW EnvS ((fun b=>X b∨rS g d l.heap.size b)) (rS g d l.heap.size) G) pA eA d np pc en ec wc es ws g l.heap.size (l.heap.size+1) t ((fun b=>X b∨rS g d l.heap.size b)):={
  R:=hB.R
  E:=CS hB.hX hB.fe (by rw[fU,r];omega) I hB.E
  hen:=hB.hen
  W:=fun k x hx=>by obtain⟨b,o,g1,g2,g3⟩:=hL.W k x hx;refine⟨b,o,g1,by rw[fU,r];omega,fun j v D=>q _ _ (g3 j v D) ?_⟩;cases j with|zero=>cases D;exact .int _ _|succ j=>cases D
  wn:=hL.wn
  h1:=hB.h1
  h5:=hB.h5
  hws:=hL.hws
  b0:=q _ _ b0 (hB.fp.mono z)
  b1:=q _ _ b1 (hB.fe.mono z)
  l0:=lG (by simp[World.cell?,n0]) Z
  c0:=Q
  hX:=uT C hY
  fp:=hB.fp.mono z
  fe:=hB.fe.mono z
  fw:=Z
  gsz:=by rw[fU,r];have:=hB.gsz;omega
  mix:=hL.mix};have N:=V9 aC;rw[<-WD]at N;refine .stop _ _ _ (PU (S:=EnvS) (X:=X) (Y:=rS g d l.heap.size) (V:=fun v=>v=wkV np es ws) (F:=67) (x:=6) (fn:=Tryz.f67) (body:=mH) (cap:=#[.pointer (some g),.pointer (some l.heap.size),.pointer (some ⟨l.heap.size+1,0,none⟩)]) WB rfl (fun _=>rfl) rfl rfl (fun _=>rfl) Qd Qb rfl rfl rfl rfl ?hrun func67 rfl Qb Qb ?hcap aF C hY (N.sub Pl) fun K hK aE=>?_);case hrun=>intro ρ aJ w h;simp only[rT];constructor<;>simp[go_sem,execOp,h]
 case hcap=>
  intro v D;simp only[mI,ZAW,ZBg,Zyi]at D;rcases D with rfl|rfl|rfl;·exact sS (.inr (.inl rfl))
  .exact sS (.inr (.inr (.inl rfl)))
  .exact sS (.inr (.inr (.inr (.inl rfl))))
 have aD:∀k j,(Go.ConcN.upd J K (some ⟨t,fun v=>v=wkV np es ws,[bot prog],fS prog 67 t (fun v=>v=wkV np es ws)⟩)) k=some j->dG cV j:=by
  intro k j hk;rcases upd_some hk with⟨_,rfl⟩|⟨_,hk⟩;·exact uS (E:=cV) (fn:=Tryz.f67) func67 Qb
  .exact hJ k j hk
 refine lZ kY rfl aD ?_;have aB:∀b,b<l.heap.size->¬rS g d l.heap.size b->(sanW EnvS ((fun b=>X b∨rS g d l.heap.size b)) (rS g d l.heap.size) G).heap[b]?=l.heap[b]?:=fun b O hn=>by rw[U0 hn];exact i b O
 have P:=kk t K (sanW EnvS ((fun b=>X b∨rS g d l.heap.size b)) (rS g d l.heap.size) G) aH hK aE (uT C hY) q (by rw[fU,r]) aB;clear kk N aC;generalize sanW EnvS ((fun b=>X b∨rS g d l.heap.size b)) (rS g d l.heap.size) G=l3 at Q P |-;walk_nrm;refine cU ZU ?_;refine cO ZU ?_;refine cT ZU ?_;simp only[A8,L',w9,Nat.reduceAdd,w0,List.range,List.range.loop];refine ZS ZU rfl rfl Qc Qb (fun y u K m p=>?_);simp only[rT];go_simp;first|refine m _ _ ?_|refine p _ ?_
 clear m p K y u;try walk_nrm
 refine ZS ZU rfl rfl Qc Qb (fun y u K m p=>?_);simp only[rT];go_simp;first|refine m _ _ ?_|refine p _ ?_
 clear m p K y u;try walk_nrm
 refine cU ZU ?_;refine OY ZU ?_;exact OZ ZU rfl rfl func66 (fun w=>by simp[results,Tryz.f66,go_sem]) (fun w=>by simp[results,Tryz.f66,go_sem]) P
end Go.Proofs
namespace Go.Proofs
open Tryz
open Go.RowKit
attribute [local go_sem] Oper.semAt_some def wE:Nat->Code->Code|0,c=>c|n+1,.seq _ b=>wE n b|_,c=>c
noncomputable def JG:Code:=wE 4 (Tryz.f41.body.getD .skip)
def s6(b a e d f:Int)(g h:Bool):Value:=if (g&&h)=true then .tuple #[.agg #[.int .i64 (b*a / e),.int .i64 (-(b*d / f))],true]else .tuple #[.agg #[(0:Int),(0:Int)],false]
def WG(x0 aH aI:Value)(b z t C i:Int)(c n:Bool)(y g h:Nat)(w:World)(A:w.heap[y]?=some (.cells #[(0:Int),(0:Int)] 58))(D:w.heap[g]?=some (.cells #[z,t,c] 131))(E:w.heap[h]?=some (.cells #[C,i,n] 131))(q:c=true->0<t/\(b*z).natAbs<=9000000000000000000)(r:n=true->0<i/\(b*C).natAbs<=9000000000000000000):JG.wp prog (bodyPost prog Tryz.f41 fun e w'=>e=.returned (s6 b z t C i c n)) ({tmps:=#[x0,undef,undef,.int .i64 b,undef,undef,undef,undef,.pointer (some y),.bool false,undef,undef,undef,.pointer (some g),.pointer (some h),zu,zu,zu,zu,zu,zu,zu,zu,zu,aH,undef,aI,zu,zu,zu,zu,zu,zu,zu,zu,zu,zu,zu,zu,zu,zu,zu,zu,zu,zu,zu,zu,zu,zu,zu,zu,zu,zu,zu,zu,zu],defers:=[]}:Act) w:=by
 obtain⟨y0,y1,y2⟩:w.cell? g=some (.int .i64 z)/\w.cell? ⟨g,1,none⟩=some (.int .i64 t)/\w.cell? ⟨g,2,none⟩=some (.bool c):=by refine⟨?_,?_,?_⟩<;>simp[World.cell?,D]
 obtain⟨z0,z1,z2⟩:w.cell? h=some (.int .i64 C)/\w.cell? ⟨h,1,none⟩=some (.int .i64 i)/\w.cell? ⟨h,2,none⟩=some (.bool n):=by refine⟨?_,?_,?_⟩<;>simp[World.cell?,E]
 simp only[JG,Tryz.f41,y',wE];have F:=i' A;have aJ:=ZE D;have aK:=ZE E;clear D E A;have f:∀x,(sizeOf 58).run prog x=.ok 2 x:=fun x=>Qb
 have G:∀x,(isAgg 58).run prog x=.ok true x:=fun x=>Qb
 cases c with
 |false=>clear q r;go_wp2_with ((refine P0 Qh (.tmp 8) (.tmp 35) 58 Qh y [.int .i64 0,.int .i64 0] [.int .i64 0,.int .i64 0] 58 rfl rfl (f _) F.out rfl Qc ?_;intro w5 d M S;clear M));refine e5 (v:=.tuple #[.agg #[.int .i64 0,.int .i64 0],.bool false]) ?_ rfl rfl;exact K2 (p:=8) (u:=9) (ad:=⟨y,0,none⟩) (v:=.agg #[.int .i64 0,.int .i64 0]) rfl Qe (x3 (T:=58) (cs:=[.int .i64 0,.int .i64 0]) (G _) (f _) d)|true=>cases n with
  |false=>clear q r;go_wp2_with ((refine P0 Qh (.tmp 8) (.tmp 35) 58 Qh y [.int .i64 0,.int .i64 0] [.int .i64 0,.int .i64 0] 58 rfl rfl (f _) F.out rfl Qc ?_;intro w5 d M S;clear M));refine e5 (v:=.tuple #[.agg #[.int .i64 0,.int .i64 0],.bool false]) ?_ rfl rfl;exact K2 (p:=8) (u:=9) (ad:=⟨y,0,none⟩) (v:=.agg #[.int .i64 0,.int .i64 0]) rfl Qe (x3 (T:=58) (cs:=[.int .i64 0,.int .i64 0]) (G _) (f _) d)|true=>
   obtain⟨P,H⟩:=q rfl;obtain⟨Q,m⟩:=r rfl;obtain⟨o,j⟩:=Qu (b*z);obtain⟨N,k⟩:=Qu (b*C);have a:s6 b z t C i true true=.tuple #[.agg #[.int .i64 (o / t),.int .i64 (-(N / i))],true]:=by rw[<-j,<-k];rfl
   rw[j]at H;rw[k]at m;have V:=i' fun W=>IN o t W P H;have Y:=i' fun W=>IN N i W Q m;have aM:IntKind.i64.wrap (b*z)=o:=by rw[j0 _ Qa,j]
   have aN:IntKind.i64.wrap (b*C)=N:=by rw[j0 _ Qa,k]
   have Z:(N / i).natAbs<=9000000000000000000:=l3 (by have:=Int.natAbs_ediv_le_natAbs N i;exact this) m;obtain⟨s,R⟩:=Qu (o / t);obtain⟨O,U⟩:=Qu (N / i);rw[R]at V a;rw[U]at Y a Z;have aO:IntKind.i64.wrap (-O)=-O:=by rw[j0 _ Qa]
   rw[a];clear q r H m j k R U P Q a Z;go_wp2;refine v8 w 20 Qb Qb Qi ?_;intro aE aC;simp only[sT,p',sA,B9];repeat (go_big_quiet_step (first|(go_at_call 69;with_reducible exact Zd (V.out _))|(go_at_call 69;with_reducible exact Zd (Y.out _))))
   refine Zyh ?_;intro w6 I aG aF;clear aE aC;have aB:=Zx I F.out;refine P0 Qh (.tmp 8) (.tmp 55) 58 Qh y [.int .i64 s,.int .i64 (-O)] [.int .i64 0,.int .i64 0] 58 rfl rfl (f _) aB rfl (by simp[Value.oneCell']) ?_;intro w9 L aD aL;clear aD;go_wp2;refine e5 (v:=.tuple #[.agg #[s,.int .i64 (-O)],true]) ?_ rfl rfl;exact K2 (p:=8) (u:=9) (ad:=⟨y,0,none⟩) (v:=.agg #[s,.int .i64 (-O)]) rfl Qe (x3 (T:=58) (cs:=[.int .i64 s,.int .i64 (-O)]) (G _) (f _) L)
end Go.Proofs
namespace Go.Proofs
open Tryz
open Go.RowKit Go.Twin Go.Conc
variable {S:Env} {X:Nat->Prop} {l l1:World} {es:List En} {J:Nat->Option Job} {K:Nat} {x:Option Job}
attribute [local go_sem] Oper.semAt_some fB fC fD dL fE fP def cN(b:Nat)(es:List En)(a:List Int):Int×Int×Bool:=match solvedL b (exs es) a with|none=>(0,0,false)|some (m,d,_)=>(dotL a m,d,true)
def FL(a:Nat)(es:List En)(b:List Int):wkV a es b=.agg #[(cN a es b).1,(cN a es b).2.1,(cN a es b).2.2]:=by unfold wkV cN;cases solvedL a (exs es) b with|none=>rfl|some q=>obtain⟨m,d,p⟩:=q;rfl
def fV(a:Nat)(es:List En)(lows ups:List Int)(parts:Int):Value:=if ((cN a es lows).2.2&&(cN a es (cL ups)).2.2)=true then .tuple #[.agg #[.int .i64 (parts*(cN a es lows).1 / (cN a es lows).2.1),.int .i64 (-(parts*(cN a es (cL ups)).1 / (cN a es (cL ups)).2.1))],true] else .tuple #[.agg #[(0:Int),(0:Int)],false]
def E9(a:Nat)(es:List En)(b:List Int)(parts:Int):Prop:=(cN a es b).2.2=true->0<(cN a es b).2.1/\(parts*(cN a es b).1).natAbs<=9000000000000000000
def q9 (a b c d:Value):Frame.enter prog 41 #[a,b,c,d] .normal=(Go.Conc.base 41).at ⟨#[a,b,c,d]++Array.replicate 52 undef,[]⟩ [.code (Tryz.f41.body.getD .skip)]:=by rw[iK (fn:=Tryz.f41) (c:=Tryz.f41.body.getD .skip) _ func41 rfl];rfl
def WH(l:List Int):(cL l).length=l.length:=by simp[cL]
def WI{k:Nat} {l:List Int} (h:ZN k l):ZN k (cL l):=by intro x a;obtain⟨y,d,rfl⟩:=b3.1 a;have:=h y d;omega
def WJ:gW.all (nB prog)=true:=Qb
def WK(a:Code):(EnvS.run a).Fine:=Ok (EnvS.run a) gW (fun _=>rfl) WJ (fun h=>(by cases h)) rfl
def JH:Sub EnvS cV:=⟨rfl,rfl,rfl,rfl,rfl,fun h=>(by cases h),Pl.good,fun h=>h⟩
def GK(a:∀b,b<l.heap.size->l1.heap[b]?=l.heap[b]?)(h:hE S X l):hE S X l1:=fun b g=>by obtain⟨c,T,f,d,e⟩:=h b g;exact⟨c,T,f,by rw[a _ (bP.1 d).1];exact d,e⟩
def JI{A:Option Addr} (d:l.heap.size<=l1.heap.size)(a:∀b,b<l.heap.size->l1.heap[b]?=l.heap[b]?)(h:h7 l A es):h7 l1 A es:=⟨kV d a h.1,fun x e=>kV d a (h.2 x e)⟩
def JJ(h:hE EnvS X l) (a:prog.globals.size<=l.heap.size):Self EnvS (fun _=>False) (idX X) l:=⟨yJ rfl (fun _=>rfl) (fun _=>rfl) h a,fun _ h=>h.elim,yI⟩
def fW(S:Env)(X:Nat->Prop)(l:List Value):Prop:=∀v∈l,VR S (idX X) v v
def fW.nil:fW S X []:=fun v h=>by cases h
def fW.cons{v:Value} {l:List Value} (h:VR S (idX X) v v)(k:fW S X l):fW S X (v::l):=fun u a=>by
 rcases ZAW.1 a with rfl|a;·exact h
 .exact k u a
def fW.ar{l:List Value} (h:fW S X l):AR S (idX X) l.toArray l.toArray:=Zu fun v a=>h v (by simpa using a)
def fW.agg{l:List Value} (h:fW S X l):VR S (idX X) (.agg l.toArray) (.agg l.toArray):=Zg h.ar
def WL{P:Program} {fn:Func} {x:Code} {u:Value} {R:Value->World->Prop} {a:Act} {w:World} (h:x.wp P (bodyPost P fn fun e _=>e=.returned u) a w)(b:∀w,R u w):x.wp P (fun e g f=>(e=.ret∨e=.normal)/\g.defers=[]/\∃v,(results fn g.tmps).run P f=.ok v f/\R v f) a w:=wp_mono h fun e g f d=>by cases e with|normal=>obtain⟨i,v,j,k⟩:=d;cases k;exact⟨.inr rfl,i,_,j,b _⟩|ret=>obtain⟨i,v,j,k⟩:=d;cases k;exact⟨.inl rfl,i,_,j,b _⟩|panic c=>exact absurd d.2 Qd|outgrown=>cases d|exit id=>exact d.elim|goto id=>exact d.elim
def GL:Go.ConcN.upd J K x K=x:=Go.ConcN.upd_same _ _ _
def WM{L:Nat} (h:L≠K):Go.ConcN.upd J K x L=J L:=Go.ConcN.upd_ne _ _ h
def WN{W0:World} {Post:Value->World->Prop} {sh:Nat->Prop} {bs:List Frame} {Z Q z aA:Option Addr} {np pc en U lc uc:Nat} {lows ups:List Int} {parts:Int} {c:Frame} {ca:List Frame} (hB:BtAt l Z Q np pc en U es X) (hL:LtAt l z np es lows) (hU:At 1 Zc l aA ups) (bJ:ups.length=np) (bL:ZN 400 ups) (cE:∀m d p,solvedL np (exs es) (cL ups)=some (m,d,p)->m.length=np/\ZN 1228800000000000 m)(cD:VR EnvS (idX X) (.slice z np lc) (.slice z np lc)) (bK:VR EnvS (idX X) (.slice aA np uc) (.slice aA np uc)) (aW:∀b,X b->sh b) (bV:∀b,X b->b<l.heap.size)(aN:E9 np es lows parts)(aO:E9 np es (cL ups) parts)(bX:bs=c::ca)(k:∀{v:Value} {w':World} {aK:Array Goroutine} {sl':Option (Nat×Nat)} {t':Trace} {q':Nat->Nat},v=fV np es lows ups parts->Kept1 W0 w'->aK[0]?=some (G (c.finish v) ca)->Leavers prog t' aK q'->Past (fun _=>False) w'.heap.size t'->Twin.Fin prog Post aK w' sl' t'):LG cV (StopK cV W0 (fun _=>none) (fun _=>False) none Post sh bs) (Frame.enter prog 41 #[.agg #[.slice Z np pc,.slice Q en U],.slice z np lc,.slice aA np uc,.int .i64 parts] .normal) [ZH prog] l:=by
 rw[q9];simp only[Tryz.f41,y'];walk_nrm;refine cO ZU ?_;refine cT ZU ?_;simp only[A8,L',w9,Nat.reduceAdd,w0,List.range,List.range.loop];refine ZS ZU rfl rfl Qc Qb (fun y r K i q=>?_);simp only[rT];go_simp;first|refine i _ _ ?_|refine q _ ?_
 iterate 2(
  clear i q K y r;try walk_nrm
  refine ZS ZU rfl rfl Qc Qb (fun y r K i q=>?_);simp only[rT];go_simp;first|refine i _ _ ?_|refine q _ ?_)
 iterate 2(
  clear i q K y r;try walk_nrm
  refine cU ZU ?_;refine cO ZU ?_;refine cT ZU ?_;simp only[A8,L',w9,Nat.reduceAdd,w0,List.range,List.range.loop];refine ZS ZU rfl rfl Qc Qb (fun y r K i q=>?_);simp only[rT];go_simp;first|refine i _ _ ?_|refine q _ ?_
  clear i q K y r;try walk_nrm
  refine ZS ZU rfl rfl Qc Qb (fun y r K i q=>?_);simp only[rT];go_simp;first|refine i _ _ ?_|refine q _ ?_)
 clear i q K y r;try walk_nrm
 refine eS (g:=66) (args:=#[.slice z np lc,.pointer (some l.heap.size)]) ZU rfl rfl Qc Qb (fun w=>by simp only[rT];go_simp) ?_;rw[rT];have F:∀b,b<l.heap.size->(((l.alloc (.cells #[.slice Z np pc,.slice Q en U] 25)).alloc (.cells #[(0:Int),(0:Int)] 58))).heap[b]?=l.heap[b]?:=fun b hb=>by show ((l.heap.push _).push _)[b]?=_;rw[cX Qk,nP hb,y1 hb]
 have n0:(((l.alloc (.cells #[.slice Z np pc,.slice Q en U] 25)).alloc (.cells #[(0:Int),(0:Int)] 58))).heap[l.heap.size]?=some (.cells #[.slice Z np pc,.slice Q en U] 25):=by show ((l.heap.push _).push _)[l.heap.size]?=_;rw[dZ,dZ];simp
 have n8:(((l.alloc (.cells #[.slice Z np pc,.slice Q en U] 25)).alloc (.cells #[(0:Int),(0:Int)] 58))).heap[l.heap.size+1]?=some (.cells #[(0:Int),(0:Int)] 58):=by show ((l.heap.push _).push _)[l.heap.size+1]?=_;rw[dZ];simp
 have bH:(((l.alloc (.cells #[.slice Z np pc,.slice Q en U] 25)).alloc (.cells #[(0:Int),(0:Int)] 58))).heap.size=l.heap.size+2:=Qd
 obtain⟨l1,bA⟩:=Qu ((l.alloc (.cells #[.slice Z np pc,.slice Q en U] 25)).alloc (.cells #[(0:Int),(0:Int)] 58));rw[bA]at F n0 n8 bH |-;clear bA;have aD:l.heap.size<=l1.heap.size:=Qa
 have aC:BtAt l1 Z Q np pc en U es X:={hB with
  E:=JI aD F hB.E
  hX:=GK F hB.hX
  gsz:=by have:=hB.gsz;omega};have bS:LtAt l1 z np es lows:={hL with W:=kV aD F hL.W};have c0:l1.cell? l.heap.size=some (.slice Z np pc):=by simp[World.cell?,n0]
 have c1:l1.cell? ⟨l.heap.size,1,none⟩=some (.slice Q en U):=by simp[World.cell?,n0]
 refine JF (J:=fun _=>none) (fun k j h=>by cases h) aC bS aW c0 c1 Qd (fun aB K1 l2 cF bQ _ aI L cH aP=>?_);have D:(idX X).le (idX ((fun b=>X b∨rS l.heap.size z l1.heap.size b))):=tU fun b=>.inl;rw[hW];walk_nrm;refine ZS ZU rfl rfl Qc Qb (fun y r K i q=>?_);simp only[rT];go_simp;first|refine i _ _ ?_|refine q _ ?_
 clear i q K y r;try walk_nrm
 refine ZS ZU rfl rfl Qc Qb (fun y r K i q=>?_);simp only[rT];go_simp;first|refine i _ _ ?_|refine q _ ?_
 clear i q K y r;try walk_nrm
 refine eS (g:=68) (args:=#[.slice aA np uc]) ZU rfl rfl Qc Qb (fun w=>by simp only[rT];go_simp) ?_;have bU:At 1 Zc l2 aA ups:=wD (X:=X) (fun b o s e=>by subst e;exact mJ bK) Qa (fun a v hx I=>L a v I ((nW aC.hX hx I).mono D)) (kV aD F hU);have cC:prog.globals.size<=l2.heap.size:=by have:=aC.gsz;omega
 refine yU (E0:=EnvS) (E:=cV) (sh:=fun _=>False) (B:=idX ((fun b=>X b∨rS l.heap.size z l1.heap.size b))) (R:=fun v w=>(∃A c,v=.slice A np c/\w.ownsRow l2.heap.size 3 1 (.slice A np c) np ((cL ups).map (Value.int .i64)))/\l2.heap.size<=w.heap.size/\∀b,b<l2.heap.size->w.heap[b]?=l2.heap[b]?) tI tH WK JH Qb (JJ aI cC) (AR.push AR.empty (bK.mono D)) (fun v w t d h=>h) (fun t d=>?hopp) (fun v l3 B3 I _ _ _=>?_);case hopp=>refine(WA aA ups np uc (l2.re t d) bU bJ (by have:=hB.h5;omega) (fun x hx=>by have:=bL x hx;omega)).mono ?_;rintro e w ⟨⟨A,c,rfl,ho⟩,hb⟩;exact⟨_,rfl,⟨A,c,rfl,ho⟩,hb.size,fun b bW=>hb.block b bW⟩
 obtain⟨⟨Ao,oc,rfl,aJ⟩,bD,H⟩:=I;rw[hW];walk_nrm;refine eS (g:=66) (args:=#[.slice Ao np oc,.pointer (some l.heap.size)]) ZU rfl rfl Qc Qb (fun w=>by simp only[rT];go_simp) ?_;rw[rT];have aX:hE EnvS ((fun b=>X b∨rS l.heap.size z l1.heap.size b)) l3:=GK H aI;have aT:BtAt l3 Z Q np pc en U es ((fun b=>X b∨rS l.heap.size z l1.heap.size b)):={hB with
  E:=JI bD H (CS aC.hX hB.fe Qa (fun a v hx I=>L a v I ((nW aC.hX hx I).mono D)) aC.E)
  hX:=aX
  fp:=hB.fp.mono D
  fe:=hB.fe.mono D
  gsz:=by omega};have bT:LtAt l3 Ao np es (cL ups):={
  W:=A' aJ
  wn:=(WH ups).trans bJ
  hws:=WI bL
  mix:=cE};have d0:l3.cell? l.heap.size=some (.slice Z np pc):=H' H (L _ _ c0 (hB.fp.mono D));have d1:l3.cell? ⟨l.heap.size,1,none⟩=some (.slice Q en U):=H' H (L _ _ c1 (hB.fe.mono D));have aU:∀k j,(Go.ConcN.upd (fun _=>none) K1 (some ((⟨aB,fun v=>v=wkV np es lows,[bot prog],fS prog 67 aB (fun v=>v=wkV np es lows)⟩:Job)))) k=some j->dG cV j:=by
  intro k j hk;rcases upd_some hk with⟨_,rfl⟩|⟨_,hk⟩;·exact uS (E:=cV) (fn:=Tryz.f67) func67 Qb
  .cases hk
 refine JF aU aT bT (fun b hb=>hb.imp (aW b) id) d0 d1 Qd (fun aE K2 C cG bR aG aY bZ cI aQ=>?_);have bF:K1≠K2:=fun e=>by rw[<-e,GL]at aG;cases aG
 have aF:∀k j,(Go.ConcN.upd (Go.ConcN.upd (fun _=>none) K1 (some ((⟨aB,fun v=>v=wkV np es lows,[bot prog],fS prog 67 aB (fun v=>v=wkV np es lows)⟩:Job)))) K2 (some ((⟨aE,fun v=>v=wkV np es (cL ups),[bot prog],fS prog 67 aE (fun v=>v=wkV np es (cL ups))⟩:Job)))) k=some j->dG cV j:=by
  intro k j hk;rcases upd_some hk with⟨_,rfl⟩|⟨_,hk⟩;·exact uS (E:=cV) (fn:=Tryz.f67) func67 Qb
  .exact aU k j hk
 rw[hW];walk_nrm;refine ZS ZU rfl rfl Qc Qb (fun y r K i q=>?_);simp only[rT];go_simp;first|refine i _ _ ?_|refine q _ ?_
 clear i q K y r;try walk_nrm
 refine ZS ZU rfl rfl Qc Qb (fun y r K i q=>?_);simp only[rT];go_simp;first|refine i _ _ ?_|refine q _ ?_
 clear i q K y r;try walk_nrm
 refine cU ZU ?_;refine cO ZU ?_;refine cT ZU ?_;simp only[A8,L',w9,Nat.reduceAdd,w0,List.range,List.range.loop];refine ZS ZU rfl rfl Qc Qb (fun y r K i q=>?_);simp only[rT];go_simp;first|refine i _ _ ?_|refine q _ ?_
 clear i q K y r;try walk_nrm
 refine .stop _ _ _ (HQ (zz:=.agg #[(0:Int),(0:Int),false]) kY rfl aF Qd (K:=K1) (j:=(⟨aB,fun v=>v=wkV np es lows,[bot prog],fS prog 67 aB (fun v=>v=wkV np es lows)⟩:Job)) bQ (by rw[WM bF,GL]) (.inl (.inr rfl)) (fun v I=>by subst I;rw[FL];exact sK 8 _ (tT _ _ _)) rfl rfl (x:=23) rfl (fun ρ w=>?r1) (fun ρ w=>?e1) (fun v1 bM=>?_));case r1=>simp only[rT];kernel_rfl
 case e1=>simp only[rT];kernel_rfl
 refine lZ kY rfl aF ?_;obtain⟨M,O,i,aL⟩:∃M O i,cN np es lows=(M,O,i):=⟨_,_,_,rfl⟩;obtain⟨N,P,q,aM⟩:∃N P q,cN np es (cL ups)=(N,P,q):=⟨_,_,_,rfl⟩;have bN:v1=.agg #[M,O,i]:=by have:v1=wkV np es lows:=bM;rw[this,FL,aL]
 clear bM;subst bN;walk_nrm;refine ZS ZU rfl rfl Qc Qb (fun y r K i q=>?_);simp only[rT];go_simp;first|refine i _ _ ?_|refine q _ ?_
 clear i q K y r;try walk_nrm
 refine .stop _ _ _ (HQ (zz:=.agg #[(0:Int),(0:Int),false]) kY rfl aF Qd (K:=K2) (j:=(⟨aE,fun v=>v=wkV np es (cL ups),[bot prog],fS prog 67 aE (fun v=>v=wkV np es (cL ups))⟩:Job)) bR (by rw[GL]) ⟨.inr rfl,fun e=>bF e.symm⟩ (fun v I=>by subst I;rw[FL];exact sK 8 _ (tT _ _ _)) rfl rfl (x:=25) rfl (fun ρ w=>?r2) (fun ρ w=>?e2) (fun v2 bO=>?_));case r2=>simp only[rT];kernel_rfl
 case e2=>simp only[rT];kernel_rfl
 have bP:v2=.agg #[N,P,q]:=by have:v2=wkV np es (cL ups):=bO;rw[this,FL,aM]
 clear bO;subst bP;walk_nrm;refine PW (xs':=[.agg #[.slice Z np pc,.slice Q en U],undef,undef,.int .i64 parts,undef,undef,undef,undef,.pointer (some ⟨l.heap.size+1,0,none⟩),.bool false,zu,zu,zu,zu,zu,zu,zu,zu,zu,zu,zu,zu,zu,zu,.agg #[M,O,i],undef,.agg #[N,P,q],zu,zu,zu,zu,zu,zu,zu,zu,zu,zu,zu,zu,zu,zu,zu,zu,zu,zu,zu,zu,zu,zu,zu,zu,zu,zu,zu,zu,zu]) rfl (by repeat first|exact .nil|refine .keep _ _ _ ?_|refine .drop _ _ _ rfl ?_) ?_;refine lZ kY rfl aF ?_;refine ZS ZU rfl rfl Qc Qb (fun y r K i q=>?_);simp only[rT];go_simp;first|refine i _ _ ?_|refine q _ ?_
 iterate 3(
  clear i q K y r;try walk_nrm
  refine ZS ZU rfl rfl Qc Qb (fun y r K i q=>?_);simp only[rT];go_simp;first|refine i _ _ ?_|refine q _ ?_)
 clear i q K y r;try walk_nrm
 refine cU ZU ?_;have Y:∀b,b<C.heap.size->(((C.alloc (.cells #[M,O,i] 131)).alloc (.cells #[N,P,q] 131))).heap[b]?=C.heap[b]?:=fun b hb=>by show ((C.heap.push _).push _)[b]?=_;rw[cX Qk,nP hb,y1 hb]
 have aR:(((C.alloc (.cells #[M,O,i] 131)).alloc (.cells #[N,P,q] 131))).heap[C.heap.size]?=some (.cells #[M,O,i] 131):=by show ((C.heap.push _).push _)[C.heap.size]?=_;rw[dZ,dZ];simp
 have aS:(((C.alloc (.cells #[M,O,i] 131)).alloc (.cells #[N,P,q] 131))).heap[C.heap.size+1]?=some (.cells #[N,P,q] 131):=by show ((C.heap.push _).push _)[C.heap.size+1]?=_;rw[dZ];simp
 have bI:(((C.alloc (.cells #[M,O,i] 131)).alloc (.cells #[N,P,q] 131))).heap.size=C.heap.size+2:=Qd
 obtain⟨l5,bB⟩:=Qu ((C.alloc (.cells #[M,O,i] 131)).alloc (.cells #[N,P,q] 131));rw[bB]at Y aR aS bI |-;clear bB;have bE:∀o,z=some ⟨l.heap.size+1,o,none⟩->False:=fun o e=>by subst e;have:=bV _ (mJ cD);omega
 have m2:l2.heap[l.heap.size+1]?=some (.cells #[(0:Int),(0:Int)] 58):=by
  rw[aP _ Qa ?_];·exact n8
  .rintro(h|h|h|⟨o,h⟩);·omega
   .omega
   .omega
   .exact bE o h
 have m3:l3.heap[l.heap.size+1]?=some (.cells #[(0:Int),(0:Int)] 58):=by rw[H _ Qa];exact m2
 have m4:C.heap[l.heap.size+1]?=some (.cells #[(0:Int),(0:Int)] 58):=by
  rw[aQ _ Qa ?_];·exact m3
  .rintro(h|h|h|⟨o,h⟩);·omega
   .omega
   .omega
   .rcases aJ.2 with⟨V,_⟩|⟨g,cJ,cK,V,h2,_⟩;·rw[h]at V;cases V
    .rw[h]at V;cases V;omega
 have m5:l5.heap[l.heap.size+1]?=some (.cells #[(0:Int),(0:Int)] 58):=by rw[Y _ Qa];exact m4
 have aV:(idX ((fun b=>((fun b=>X b∨rS l.heap.size z l1.heap.size b)) b∨rS l.heap.size Ao l3.heap.size b))).le (idX ((fun b=>((fun b=>((fun b=>X b∨rS l.heap.size z l1.heap.size b)) b∨rS l.heap.size Ao l3.heap.size b)) b∨(b=l.heap.size+1∨b=C.heap.size∨b=C.heap.size+1)))):=tU fun b=>.inl;have aH:(idX X).le (idX ((fun b=>((fun b=>((fun b=>X b∨rS l.heap.size z l1.heap.size b)) b∨rS l.heap.size Ao l3.heap.size b)) b∨(b=l.heap.size+1∨b=C.heap.size∨b=C.heap.size+1)))):=tU fun b h=>.inl (.inl (.inl h));have aZ:hE EnvS ((fun b=>((fun b=>((fun b=>X b∨rS l.heap.size z l1.heap.size b)) b∨rS l.heap.size Ao l3.heap.size b)) b∨(b=l.heap.size+1∨b=C.heap.size∨b=C.heap.size+1))) l5:=by
  rintro b (hb|rfl|rfl|rfl);·obtain⟨c,T,f,V,h2⟩:=GK Y aY b hb;exact⟨c,T,f,V,fun v I=>(h2 v I).mono aV⟩
  .exact⟨_,_,_,m5,fun v I=>by simp only[mI,ZAW,ZBg,Zyi]at I;rcases I with rfl|rfl<;>exact .int _ _⟩
  .exact⟨_,_,_,aR,fun v I=>by simp only[mI,ZAW,ZBg,Zyi]at I;rcases I with rfl|rfl|rfl<;>first|exact .int _ _|exact .bool _⟩
  .exact⟨_,_,_,aS,fun v I=>by simp only[mI,ZAW,ZBg,Zyi]at I;rcases I with rfl|rfl|rfl<;>first|exact .int _ _|exact .bool _⟩
 have bY:s6 parts M O N P i q=fV np es lows ups parts:=by unfold s6 fV;rw[aL,aM]
 unfold E9 at aN aO;rw[aL]at aN;rw[aM]at aO;refine pF (E0:=EnvS) (E:=cV) (fn:=Tryz.f41) (R:=fun v w=>v=fV np es lows ups parts) tI tH JH (JJ aZ (by have:=aT.gsz;omega)) ?ha rfl Qb func41 (fun t d=>?tail) (fun f l' bG cA=>.stop _ _ _ (P7 (R':=fun v=>v=fV np es lows ups parts) (by rw[cA];kernel_rfl) bG (fun x _ h=>?hu) (fun v t d h=>⟨?hsol,h⟩) bX k));case ha=>refine fW.ar (l:=[.agg #[.slice Z np pc,.slice Q en U],undef,undef,.int .i64 parts,undef,undef,undef,undef,.pointer (some ⟨l.heap.size+1,0,none⟩),.bool false,undef,undef,undef,.pointer (some C.heap.size),.pointer (some ⟨C.heap.size+1,0,none⟩),zu,zu,zu,zu,zu,zu,zu,zu,zu,.agg #[M,O,i],undef,.agg #[N,P,q],zu,zu,zu,zu,zu,zu,zu,zu,zu,zu,zu,zu,zu,zu,zu,zu,zu,zu,zu,zu,zu,zu,zu,zu,zu,zu,zu,zu,zu]) ?_;refine .cons (fW.agg (l:=[.slice Z np pc,.slice Q en U]) (.cons (hB.fp.mono aH) (.cons (hB.fe.mono aH) .nil))) ?_;repeat first
   |exact .nil|refine .cons undefR ?_|refine .cons (.int _ _) ?_|refine .cons (.bool _) ?_|refine .cons (sS (.inr (.inl rfl))) ?_|refine .cons (sS (.inr (.inr (.inl rfl)))) ?_|refine .cons (sS (.inr (.inr (.inr rfl)))) ?_|refine .cons (fW.agg (l:=[.int .i64 M,.int .i64 O,.bool i]) (.cons (.int _ _) (.cons (.int _ _) (.cons (.bool _) .nil)))) ?_|refine .cons (fW.agg (l:=[.int .i64 N,.int .i64 P,.bool q]) (.cons (.int _ _) (.cons (.int _ _) (.cons (.bool _) .nil)))) ?_
 case tail=>exact WL (u:=s6 parts M O N P i q) (WG _ _ _ parts M O N P i q (l.heap.size+1) C.heap.size (C.heap.size+1) (l5.re t d) m5 aR aS aN aO) fun w=>bY
 case hu=>
  obtain⟨⟨V,h2⟩,h3⟩:=h;rcases V with(V|V)|V;·exact V
  .exact h2 V
  .exact h3 V
 case hsol=>have h':v=fV np es lows ups parts:=h;subst h';unfold fV;split<;>simp[cP]
section
variable {E1:Env} {sh:Nat->Prop} {B:Blk} {bs':List Frame} {l w:World}
def CW{a:Addr} {v:Value} (h:l.cell? a=some v):∃c T f,l.heap[a.block]?=some (.cells c T f):=by unfold World.cell? at h;cases d:l.heap[a.block]? with|none=>rw[d]at h;cases h|some ob=>rw[d]at h;cases ob with|cells c T f=>exact⟨c,T,f,rfl⟩|_=>cases h
def WO(f:WR E1 ⟨sh,fun _=>False⟩ B l w) {b d o:Nat} (c:B b d) {v:Value} (e:l.cell? ⟨b,o,none⟩=some v):∃a,VR E1 B v a:=by obtain⟨a,_,h⟩:=uC f (.mk b d o none c) e;exact⟨a,h⟩
def WQ{E:Env} {b o n c:Nat} {s:Option Nat} {v:Value} (h:VR E B (.slice (some ⟨b,o,s⟩) n c) v)(d:E.z0=false):∃a,B b a:=by cases h with
 |slice _ _ _ _ ha=>cases ha with|mk _ b4 _ _ hb4=>exact⟨b4,hb4⟩
 |slice0 _ h=>rw[d]at h;cases h
def WS(u:E1.z0=false) (R:WR E1 ⟨sh,fun _=>False⟩ B l w) {A:Option Addr} {n c:Nat} {es:List En} (Q:VR EnvS (idX (Z7 B l)) (.slice A n c) (.slice A n c)) (P:∀x∈es,x.co≠[]) (h:h7 l A es):h7 (sanW EnvS (Z7 B l) (Z7 B l) l) A es:=by
 have F:∀b o s,A=some ⟨b,o,s⟩->Z7 B l b:=fun b o s e=>by subst e;exact mJ Q
 have q:∀x∈es,∀b o s,x.A=some ⟨b,o,s⟩->Z7 B l b:=by
  intro x d b o s e;obtain⟨k,r⟩:=eP d;obtain⟨I,N,f,m,g⟩:=h.1 k x r;have E:=g 1 _ rfl;obtain⟨⟨L,p⟩,_⟩:=F _ _ _ f;obtain⟨O,i⟩:=WO R p E;rw[e]at i;have t:0<x.co.length:=by have:=P x d;cases G:x.co with
   |nil=>exact absurd G this|cons _ _=>simp
  obtain⟨M,o3,y,_,C⟩:=h.2 x d 0 _ (h' t);have D:=CW (C 0 _ rfl);rw[e]at y;cases y;exact⟨WQ i u,D⟩
 refine⟨fun k x d=>?_,fun x d k z H=>?_⟩;·obtain⟨b,o,f,m,g⟩:=h.1 k x d;refine⟨b,o,f,by rw[fU];exact m,fun j v a=>lG (g j v a) ?_⟩;match j,a with
  |0,a=>cases a;exact .string _|1,a=>cases a;exact qZ (q x (e7 d))|2,a=>cases a;exact .int _ _|j+3,a=>cases a
 .obtain⟨b,o,f,m,g⟩:=h.2 x d k z H;refine⟨b,o,f,by rw[fU];exact m,fun j v a=>lG (g j v a) ?_⟩;cases j with|zero=>cases a;exact .int _ _|succ j=>cases a
def JK{A:Option Addr} {c:List Int} {X Y:Nat->Prop} (h:At 1 Zc l A c):At 1 Zc (sanW EnvS X Y l) A c:=fun k z g=>by obtain⟨b,o,d,e,f⟩:=h k z g;refine⟨b,o,d,by rw[fU];exact e,fun j v a=>lG (f j v a) ?_⟩;cases j with|zero=>cases a;exact .int _ _|succ j=>cases a
def CX(M:E1.P=prog)(Z:∀f,E1.dfr f=false)(F:E1.z0=false) {C i e g:Option Addr} {o D s z lc uc:Nat} {es:List En} {lows ups:List Int} {parts:Int} {fa:Frame} {cs cb:List Frame} (hR:RightE es o)(hE:h7 l i es)(hen:es.length=s)(h1:1<=o)(h5:o<=5)(A:∀x∈es,x.co≠[])(hL:LtAt l e o es lows)(hU:At 1 Zc l g ups)(aF:ups.length=o)(aG:ZN 400 ups)(aE:∀m d p,solvedL o (exs es) (cL ups)=some (m,d,p)->m.length=o/\ZN 1228800000000000 m) (aB:E9 o es lows parts) (aC:E9 o es (cL ups) parts)(H:VR EnvS (idX (Z7 B l)) (.slice C o D) (.slice C o D)) (y:VR EnvS (idX (Z7 B l)) (.slice i s z) (.slice i s z)) (G:VR EnvS (idX (Z7 B l)) (.slice e o lc) (.slice e o lc)) (I:VR EnvS (idX (Z7 B l)) (.slice g o uc) (.slice g o uc))(h:Rel E1 sh bs' B (Frame.enter E1.P 41 #[.agg #[.slice C o D,.slice i s z],.slice e o lc,.slice g o uc,.int .i64 parts] .normal) cs l fa cb w):dV prog fa w fun v=>v=fV o es lows ups parts:=by
 intro Post c L gs sl t q h0 T U kk;have u:∀v∈(#[.agg #[.slice C o D,.slice i s z],.slice e o lc,.slice g o uc,.int .i64 parts]:Array Value),VR EnvS (idX (Z7 B l)) v v:=by
  intro v N;simp only[mI,ZAW,ZBg,Zyi]at N;rcases N with rfl|rfl|rfl|rfl;·exact fW.agg (l:=[.slice C o D,.slice i s z]) (.cons H (.cons y .nil))
  .exact G
  .exact I
  .exact .int _ _
 obtain⟨Y,hrel⟩:=PG (S:=EnvS) (E2:=cV) (fn:=Tryz.f41) (body:=Tryz.f41.body.getD .skip) (by rw[M];rfl) ⟨rfl,F,Pl.good⟩ rfl rfl rfl (fun _=>rfl) (fun _=>rfl) Z (c::L) (by rw[M];exact func41) rfl Qb u h;rw[M]at hrel;have aD:∀b,Z7 B l b->b<l.heap.size:=fun b r=>by obtain⟨_,_,_,_,hc⟩:=r;exact(bP.1 hc).1
 have hg:prog.globals.size<=l.heap.size:=by have:=h.wr.gsz.1;rw[M]at this;exact this
 have O:BtAt (sanW EnvS (Z7 B l) (Z7 B l) l) C i o D s z es (Z7 B l):={R:=hR,E:=WS F h.wr y A hE,hen:=hen,h1:=h1,h5:=h5,hX:=Y,fp:=H,fe:=y,gsz:=by rw[fU];exact hg};have Q:LtAt (sanW EnvS (Z7 B l) (Z7 B l) l) e o es lows:={hL with W:=JK hL.W};have V:=WN (W0:=w) (Post:=Post) (sh:=Z7 B l) (bs:=c::L) (lc:=lc) (uc:=uc) (parts:=parts) O Q (JK hU) aF aG aE G I (fun b r=>r) (fun b r=>by rw[fU];exact aD b r) aB aC rfl fun N hK a b d=>kk N hK a b d;have aA:=lZ kY rfl (fun k j hj=>by cases hj) V ⟨Z7 B l,c::L,B.on (Z7 B l),_,[ZH prog],sanW EnvS (Z7 B l) (Z7 B l) l,fun _ _ _=>True⟩ rfl rfl rfl rfl ⟨l.tape,l.drawn,rfl⟩;exact OW (E:=cV) (n:=⟨Z7 B l,c::L,B.on (Z7 B l),_,[ZH prog],sanW EnvS (Z7 B l) (Z7 B l) l,fun _ _ _=>True⟩) h0 T U hrel (fun b x (r:B.on (Z7 B l) b x)=>r.2) aA.go
end
variable {w:World}
def iY:List Nat:=[0,5,1,2,6,7]
structure GlobOk (w:World):Prop where
 ints:∀g,iY.contains g=true->∃c T f,w.heap[g]?=some (.cells c T f)/\∀v∈c,∃k n,v=.int k n
 size:prog.globals.size<=w.heap.size
 many:3<w.heap.size/\4<w.heap.size
def GlobOk.kept{j:World} (h:GlobOk w)(a:Kept1 w j):GlobOk j:=⟨fun g i=>by obtain⟨c,T,f,d,e⟩:=h.ints g i;exact⟨c,T,f,by rw[a.heap _ (bP.1 d).1];exact d,e⟩,l3 h.size a.size,h8 h.many.1 a.size,h8 h.many.2 a.size⟩
def aK(w:World):World:={w with heap:=(w.heap.setIfInBounds 3 (.deferred none)).setIfInBounds 4 (.deferred none)}
def F0(w:World):(aK w).heap.size=w.heap.size:=by simp[aK]
def R7(w:World) {b:Nat} (a:b≠3)(c:b≠4):(aK w).heap[b]?=w.heap[b]?:=by unfold aK;rw[h2 (fun e=>c e.symm),h2 (fun e=>a e.symm)]
def awB:Blk:=fun b x=>b=x/\iY.contains b=true
def lO{g:Nat} (h:iY.contains g=true):g≠3/\g≠4:=by constructor<;>rintro rfl<;>exact absurd h Qc
def CY{E:Env} (G:E.P=prog)(F:∀g,E.glob g=iY.contains g)(D:∀g,E.dark g=[3,4].contains g) {a:Nat->Prop} {v:World} (h:GlobOk w)(o:v.heap=w.heap∨v=aK w)(Q:∀i q,a ((aK w).drawn+i)->(aK w).tape ((aK w).drawn+i) q=v.tape (v.drawn+i) q):WR E ⟨fun _=>False,a⟩ awB (aK w) v:=by
 have j:v.heap.size=w.heap.size:=by
  rcases o with h|rfl;·rw[h]
  .exact F0 w
 have p:∀b,b≠3->b≠4->v.heap[b]?=w.heap[b]?:=by
  rcases o with h|rfl;·intro b _ _;rw[h]
  .exact fun b N O=>R7 w N O
 have r:∀b,iY.contains b=true->b<w.heap.size:=fun b e=>by obtain⟨c,T,f,z,_⟩:=h.ints b e;exact(bP.1 z).1
 refine⟨fun b d R x y=>x.1.symm.trans y.1,fun b c d x y=>x.1.trans y.1.symm,fun b d x=>?_,fun b d x _=>?_,fun b d _ x=>x.elim,Q,fun g C=>⟨rfl,by rw[<-F];exact C⟩,fun b d x=>by rw[x.1],⟨by rw[G,F0];exact h.size,by rw[G,j];exact h.size⟩,fun _=>⟨fun _ x=>x,by rw[F0,j],fun b d x=>x.1⟩,fun g C=>?_⟩;·obtain⟨rfl,e⟩:=x;rw[F0,j];exact⟨r b e,r b e⟩
 .obtain⟨rfl,e⟩:=x;obtain⟨c,T,f,z,M⟩:=h.ints b e;obtain⟨I,L⟩:=lO e;refine⟨_,_,(R7 w I L).trans z,(p b I L).trans z,.cells c c T f ⟨rfl,fun i u V H t=>?_⟩⟩;rw[H]at t;cases t;obtain⟨k,n,rfl⟩:=M u (bG H);exact .int k n
 .rw[D]at C;have m:g=3∨g=4:=by simpa using C
  have U:=h.many;refine⟨?_,fun d x=>?_⟩
  .unfold aK;rcases m with rfl|rfl;·rw[h2 Qc,bR Qa]
   .rw[bR Qk]
  .have:=lO x.2;rcases m with rfl|rfl;·exact this.1 rfl
   .exact this.2 rfl
def WT(h:GlobOk w):Self ZM (fun _=>False) awB (aK w):=⟨CY (E:=ZM) rfl (fun _=>rfl) (fun _=>rfl) h (.inr rfl) (fun _ _ _=>rfl),fun _ x=>x.elim,fun b a x=>x.1⟩
def CZ:Frame.enter prog 4 #[] .normal=(Go.Conc.base 4).at ⟨Array.replicate 84 undef,[]⟩ [.code (Tryz.f4.body.getD .skip)]:=by
 rw[iK (fn:=Tryz.f4) (c:=Tryz.f4.body.getD .skip) _ func4 rfl];have e:Tryz.f4.ntmps=84:=Qb
 rw[e];simp
def WU{u:Value} (m:GlobOk w)(A:∀(n:Value->World->Prop)(c:Frame)(o:List Frame),(∀f s,Ret prog (fun v _=>v=u) f [ZH prog] s->f.fn=4->(∀x,x<(aK w).heap.size->s.heap[x]?=(aK w).heap[x]?)->StopG ZP n w (aK w) awB (fun _=>False) (c::o) f [ZH prog] s)->LG ZP (StopG ZP n w (aK w) awB (fun _=>False) (c::o)) (Frame.enter prog 4 #[] .normal) [ZH prog] (aK w)) (I:cP 8 u=true):dV prog (Frame.enter prog 4 #[] .normal) w fun v=>v=u:=by
 intro n c o G H t q p j y D;have k:=A n c o fun f s i z g=>P' (E:=ZP) (u:=u) rfl i (fun v t d h=>h) I g fun C a b d=>D rfl C a b d;refine Jx (E:=ZP) (l0:=aK w) pK (fun b x e=>.inr ⟨e.1,?_,?_,rfl,rfl⟩) k p j y (B:=awB) ⟨?_,CY (E:=ZP) rfl (fun _=>rfl) (fun _=>rfl) m (.inl rfl) (fun _ _ x=>x.elim),fun _ x=>x.elim⟩ ⟨Kept1.refl w,fun b x e _=>e⟩;·obtain⟨rfl,e⟩:=e;obtain⟨F,T,f,r,_⟩:=m.ints b e;rw[F0];exact(bP.1 r).1
 .obtain⟨rfl,e⟩:=e;exact R7 w (lO e).1 (lO e).2
 .rw[CZ];exact .last _ _ (R2 (AR.replicate _ undefR) rfl (.cons _ _ _ _ (.code _ ⟨Qb,fun h=>(by cases h)⟩) .nil)) rfl
end Go.Proofs
namespace Go.Proofs
open Tryz
open Go.RowKit
def JL(n m:Int)(w:World)(b:m.natAbs<=9000000000000000000):Calls prog 81 #[n,m] w fun e a=>e=.returned (dC n m)/\w=a:=by have d:IntKind.i64.wrap (-m)=-m:=j0 _ Qa;go_enter func81,ntmps81;go_wp2_with (go_at_call 80;refine(mC _ _ _ _).mono ?_;rintro e a ⟨rfl,rfl⟩);go_ret;exact⟨gB (by simp[dC]),rfl⟩
def JM{α:Type} {P:α->Prop} {l:List α} {k:Nat} {x:α} (c:l[k]?=some x)(h:∀y∈l.take k,P y)(b:P x):∀y∈l.take (k+1),P y:=by
 intro y d;rw[r4,c]at d;rcases s0.1 d with a|a;·exact h y a
 .simp at a;subst a;exact b
structure FewR (ps:List Pa)(es:List En):Prop where
 p:ps.length<=4∨(6<=ps.length/\ps.length<=7)
 e:es.length<=4∨(9<=es.length/\es.length<=10)
 pn:∀p∈ps,p.nm.size<=20
 en:∀x∈es,x.nm.size<=20/\x.co.length<=8
def FewR.fewB{c:List Pa} {b:List En} (h:FewR c b):FewB c b:=⟨by have:=h.p;omega,by have:=h.e;omega,fun p d=>by have:=h.pn p d;omega,fun x a=>by have:=(h.en x a).1;omega,fun x a=>by have:=(h.en x a).2;omega⟩
def WV(b:List Pa)(a:List En)(e:Ending):Prop:=∃r:Bool,e=.returned r/\(r=true->FewR b a)
def C5(V U:Option Addr)(T M a c:Nat)(l:List Pa)(n:List En)(w:World)(hB:BookAt w V T l U M n)(m:l.length=a)(j:n.length=c):Calls prog 5 #[.agg #[.slice V a T,.slice U c M]] w fun e w'=>WV l n e/\QB w w':=by
 have aF:a<=T:=by rw[<-m];exact hB.pc'
 have aC:c<=M:=by rw[<-j];exact hB.ec'
 have Q:Hid ((a<=4∨(6<=a/\a<=7))->(c<=4∨(9<=c/\c<=10))->(∀p∈l,p.nm.size<=20)->(∀x∈n,x.nm.size<=20/\x.co.length<=8)->FewR l n):=i' fun K S X h4=>⟨by rw[m];exact K,by rw[j];exact S,X,h4⟩;have hP:=i' hB.P;have hE:=i' hB.E;have u:=i' m;have r:=i' j;clear hB m j;by_cases g:a<=7/\(a<=4∨5<a);case neg=>
  by_cases s:4<(a:Int);all_goals by_cases G:(a:Int)<=5
  all_goals by_cases H:7<(a:Int)
  all_goals try (exfalso;omega)
  all_goals clear g
  all_goals go_enter func5,ntmps5
  all_goals go_wp2
  all_goals go_ret;exact⟨⟨false,rfl,fun h=>nomatch h⟩,Qi⟩
 by_cases z:c<=10/\(c<=4∨8<c);case neg=>
  by_cases s:4<(a:Int);all_goals by_cases G:(a:Int)<=5
  all_goals by_cases H:7<(a:Int)
  all_goals try (exfalso;omega)
  all_goals by_cases m8:4<(c:Int)
  all_goals by_cases m60:(c:Int)<=8
  all_goals by_cases m62:10<(c:Int)
  all_goals try (exfalso;omega)
  all_goals clear g z
  all_goals go_enter func5,ntmps5
  all_goals go_wp2
  all_goals go_ret;exact⟨⟨false,rfl,fun h=>nomatch h⟩,Qi⟩
 by_cases s:4<(a:Int);all_goals by_cases G:(a:Int)<=5
 all_goals by_cases H:7<(a:Int)
 all_goals try (exfalso;omega)
 all_goals by_cases m8:4<(c:Int)
 all_goals by_cases m60:(c:Int)<=8
 all_goals by_cases m62:10<(c:Int)
 all_goals try (exfalso;omega)
 all_goals
  have aE:a<=9:=Qa
  have aB:c<=10:=Qa
  have O:=i' g;have N:=i' z;clear g z;go_enter func5,ntmps5;go_wp2;clear s G H m8 m60 m62;go_loopw [3] (fun i wr=>∃k:Nat,k<=a/\i=.int .i64 k/\Hid (∀x∈l.take k,x.nm.size<=20)/\QB w wr/\wr.heap[w.heap.size]?=some (.cells #[.slice V a T,.slice U c M] 25))(fun i _=>a-(intOf i).toNat);case atStart=>exact⟨0,e6 _,rfl,by simp[Hid],ZB _ _,Qs⟩
  case round=>
   obtain⟨k,hk,rfl,d,f,v⟩:=hrel;have A:=bk2 v;by_cases R:k<a
   .obtain⟨x,D⟩:∃x,l[k]?=some x:=⟨_,h' (by rw[u.out];exact R)⟩;obtain⟨b,o,rfl,Y,I⟩:=(hP.out.below f) k x D;have F:=i' D;have W:=I 0 _ rfl;simp only[sW]at W;have Z:(k:Int)<(a:Int):=Qa
    clear D I;by_cases J:20<(x.nm.size:Int);·go_wp2;go_ret;exact⟨⟨false,rfl,fun h=>nomatch h⟩,Qi⟩
    .have C:=i' (JM (P:=fun x:Pa=>x.nm.size<=20) F.out d.out Qa);go_wp2;go_roundw;case rel=>exact⟨k+1,Qa,Qj,C.out,f,v⟩
     case measure=>exact Qv
   .have B:k=a:=Qa
    have y:Hid (∀x∈l,x.nm.size<=20):=i' (by have:=d.out;rwa [h9 (by rw[u.out];omega)]at this);obtain rfl:a=k:=B.symm;clear d R;go_wp2;go_loopw [4] (fun i wr=>∃q:Nat,q<=c/\i=.int .i64 q/\Hid (∀x∈n.take q,x.nm.size<=20/\x.co.length<=8)/\QB w wr/\wr.heap[w.heap.size]?=some (.cells #[.slice V a T,.slice U c M] 25))(fun i _=>c-(intOf i).toNat);case atStart=>exact⟨0,e6 _,rfl,by simp[Hid],f,v⟩
    case round=>
     clear A v f;obtain⟨L,aD,rfl,d,f,v⟩:=hrel;have A:=bk2 v;by_cases t:L<c
     .obtain⟨x,D⟩:∃x,n[L]?=some x:=⟨_,h' (by rw[r.out];exact t)⟩;obtain⟨b,o,rfl,Y,I⟩:=(hE.out.below f).1 L x D;have F:=i' D;have W:=I 0 _ rfl;have c1:=I 1 _ rfl;simp only[sW]at W;have Z:(L:Int)<(c:Int):=Qa
      clear D I;by_cases J:20<(x.nm.size:Int);·go_wp2;go_ret;exact⟨⟨false,rfl,fun h=>nomatch h⟩,Qi⟩
      .by_cases g2:8<(x.co.length:Int);·go_wp2;go_ret;exact⟨⟨false,rfl,fun h=>nomatch h⟩,Qi⟩
       .have C:=i' (JM (P:=fun x:En=>x.nm.size<=20/\x.co.length<=8) F.out d.out ⟨Qa,Qa⟩);go_wp2;go_roundw;case rel=>exact⟨L+1,Qa,Qj,C.out,f,v⟩
        case measure=>exact Qv
     .obtain rfl:c=L:=Qa
      clear t;go_wp2;go_ret;refine⟨⟨true,rfl,fun _=>Q.out (by have:=O.out;omega) (by have:=N.out;omega) y.out ?_⟩,Qi⟩;have:=d.out;rwa [h9 (by rw[r.out];omega)]at this
end Go.Proofs
namespace Go.Proofs
open Go Go.Lib
def cutL:List UInt8->List (List UInt8)|[]=>[[]]|c::l=>if c=32 then []::cutL l else match cutL l with|h::t=>(c::h)::t|[]=>[[c]]
def wF:∀(a:List UInt8),(∀c∈a,c≠32)->cutL a=[a]|[],_=>rfl|c::a,h=>by unfold cutL;rw[q' (h c (eN ..)),wF a (fun d e=>h d (A5 _ e))]
def wG:∀(a b:List UInt8),(∀c∈a,c≠32)->cutL (a++32::b)=a::cutL b|[],b,_=>by simp[cutL]|c::a,b,h=>by rw[M3,cutL,q' (h c (eN ..)),wG a b (fun d e=>h d (A5 _ e))]
def GM(s:List UInt8)(i:Nat):occAt s [32] i=(s[i]?==some 32):=by unfold occAt;cases h:s.drop i with
 |nil=>
  have:s[i]?=none:=by rw[iG];exact List.drop_eq_nil_iff.1 h
  rw[this];rfl|cons c l=>
  have:s[i]?=some c:=by rw[<-List.head?_drop,h];rfl
  rw[this];simp only[List.isPrefixOf,nC];rw[dE];simp only[bJ,nK];exact⟨fun e=>e.symm,fun e=>e.symm⟩
def WW:∀(n:Nat)(s:List UInt8),s.length<=n->splitK [32] 0 (count s [32]) s=cutL s:=by intro n;induction n with|zero=>intro s z;have:s=[]:=Q0 Qa;subst this;decide+kernel|succ n ih=>
  intro s z;rcases index_spec s [32]with⟨h,k⟩|⟨i,h,C,p,k⟩
  .rw[count_miss h];have r:∀c∈s,c≠32:=by intro c g e;subst e;obtain⟨j,d⟩:=eP g;have m:=(M0.1 d).1;have:=k j Qa;rw[GM,d]at this;simp at this
   rw[wF s r];rfl
  .rw[count_hit Qd h,aD,splitK];have y:¬(index s [32]==-1)=true:=fun e=>by have:=bJ.1 e;omega
   rw[q' y,h];rw[GM]at p;have f:s[i]?=some 32:=by simpa using p
   have m:=(M0.1 f).1;have a:s=s.take i++32::s.drop (i+1):=by have q:=List.getElem_cons_drop m;rw[(M0.1 f).2]at q;rw[q,CR]
   have r:∀c∈s.take i,c≠32:=by
    intro c g e;subst e;obtain⟨j,d⟩:=eP g;have t:=(M0.1 d).1;rw[y5]at t;rw[dN]at d;split at d;·have:=k j Qa;rw[GM,d]at this;simp at this
    .cases d
   conv=>rhs;rw[a]
   rw[wG _ _ r];have q:((i:Int)).toNat+0=i:=Qa
   have u:((i:Int)).toNat+[(32:UInt8)].length=i+1:=Qd
   have v:i+[(32:UInt8)].length=i+1:=rfl;rw[q,u,v,ih (s.drop (i+1)) (by rw[List.length_drop];omega)]
def isDig(c:UInt8):Bool:=decide (48<=c.toNat)&&decide (c.toNat<=57)
def lC:Nat->List UInt8->Nat|a,[]=>a|a,c::l=>lC (10*a+(c.toNat-48)) l
def T9(l:List UInt8):List UInt8:=if l.head?=some 45 then l.tail else l
def JN:∀(l:List UInt8)(a:Nat)(c:UInt8),lC a (l++[c])=10*lC a l+(c.toNat-48)|[],a,c=>rfl|d::l,a,c=>by rw[M3];unfold lC;exact JN l _ c
def JO(u:Nat)(h:u<10):(UInt8.ofNat (48+u)).toNat=48+u:=by rw[UInt8.toNat_ofNat'];omega
def ZF:∀(u:Nat),decDigits u≠[]/\(decDigits u).all isDig=true/\lC 0 (decDigits u)=u/\((decDigits u).head?=some 48->u=0):=by intro u;induction u using Nat.strongRecOn with|_ u ih=>
  by_cases h:u<10
  .rw[decDigits,PS h];have e:=JO u h;refine⟨Qd,?_,?_,?_⟩;·simp only[iX,List.all_nil,nC,isDig,e];simp;omega
   .show 10*0+((UInt8.ofNat (48+u)).toNat-48)=u;rw[e];omega
   .intro d;simp only[List.head?_cons,nK]at d;have m:(UInt8.ofNat (48+u)).toNat=48:=D1 UInt8.toNat d;omega
  .rw[decDigits,dif_neg h];obtain⟨i,d,j,k⟩:=ih (u / 10) Qa;have e:=JO (u%10) Qa;refine⟨Qd,?_,?_,?_⟩;·rw[List.all_append,d,Bool.true_and];simp only[iX,List.all_nil,nC,isDig,e];simp;omega
   .rw[JN,j,e];omega
   .intro f;have:(decDigits (u / 10)).head?=some 48:=by cases g:decDigits (u / 10)with
     |nil=>exact(i g).elim|cons a l=>rw[g]at f;simpa using f
    have:=k this;omega
def rB{c:UInt8} (h:isDig c=true):c≠45/\c≠43/\c≠32:=by unfold isDig at h;simp only[aY,z1]at h;refine⟨?_,?_,?_⟩<;>(intro e;subst e;revert h;decide)
def JP{l:List UInt8} (h:l.all isDig=true):¬l.head?=some 45:=by cases l with|nil=>simp|cons c l=>simp only[iX,aY]at h;intro e;simp only[List.head?_cons,nK]at e;exact(rB h.1).1 e
def WX(n:Int):T9 (itoa n)=decDigits n.natAbs/\((itoa n).head?=some 45↔n<0):=by
 obtain⟨f,d,g,i⟩:=ZF n.natAbs;unfold T9 itoa;by_cases a:n<0;·rw[Zc9 a];simp[a]
 .rw[q' a];have e:n.toNat=n.natAbs:=Qa
  rw[e,q' (JP d)];exact⟨rfl,⟨fun h=>(JP d h).elim,fun h=>(a h).elim⟩⟩
def WY(l:List UInt8):trimPrefix l [45]=T9 l:=by unfold trimPrefix T9 hasPrefix;cases l with
 |nil=>rfl|cons c l=>
  by_cases h:c=45;·subst h;simp
  .have a:¬(45:UInt8)=c:=fun e=>h e.symm;simp[h,a]
def JQ:∀(l:List UInt8)(a:Nat),l.all isDig=true->decFrom a l=some (lC a l)|[],a,_=>rfl|c::l,a,h=>by simp only[iX,aY]at h;have d:=h.1;unfold isDig at d;simp only[aY,z1]at d;unfold decFrom digitVal lC;rw[Zc9 d];dsimp only;rw[JQ l _ h.2,Nat.mul_comm]
def JR(u:Nat):decNat (decDigits u)=some u:=by obtain⟨a,d,e,-⟩:=ZF u;unfold decNat;rw[q' (by simpa using a),JQ _ _ d,e]
def WZ(n:Int):atoi (itoa n)=some n:=by
 unfold itoa;by_cases f:n<0;·rw[Zc9 f];unfold atoi;dsimp only;rw[Zc9 Qc,JR];simp;omega
 .rw[q' f];obtain⟨g,a,j,-⟩:=ZF n.toNat;have d:=JR n.toNat;cases e:decDigits n.toNat with|nil=>exact(g e).elim|cons c l=>rw[e]at a d;simp only[iX,aY]at a;obtain⟨h,i,-⟩:=rB a.1;unfold atoi;dsimp only;rw[q' (by simpa using h),q' (by simpa using i),d];simp;omega
def JS:∀(k u:Nat),u<10^(k+1)->(decDigits u).length<=k+1
 |0,u,h=>by rw[decDigits,PS Qa];simp|k+1,u,h=>by
  by_cases a:u<10;·rw[decDigits,PS a];simp
  .rw[decDigits,dif_neg a,hK];have:=JS k (u / 10) (by rw[pQ]at h;omega);simp only[L',w9];omega
def rC(k:Nat)(n:Int)(h:n.natAbs<10^(k+1)):(itoa n).length<=k+2/\(T9 (itoa n)).length<=k+1:=by
 have a:=JS k n.natAbs h;refine⟨?_,by rw[(WX n).1];exact a⟩;unfold itoa;split;·simp only[L'];omega
 .rw[show n.toNat=n.natAbs by omega];omega
def W1(n:Int):itoa n≠[]/\∀c∈itoa n,c≠32/\c≠10:=by
 have d:∀u,∀c∈decDigits u,c≠32/\c≠10:=fun u c a=>by have:=bK.1 (ZF u).2.1 c a;refine⟨(rB this).2.2,fun e=>?_⟩;subst e;revert this;decide
 unfold itoa;split
 .refine⟨Qd,fun c a=>?_⟩;rcases ZAW.1 a with rfl|a;·decide
  .exact d _ c a
 .exact⟨(ZF _).1,d _⟩
def C7(x y:List UInt8)(r:List (List UInt8))(a:List UInt8):join (x::y::r) a=x++(a++join (y::r) a):=by rw[join_cons,join_cons];simp[joinTail]
def JU:∀(b:List (List UInt8)),b≠[]->(∀x∈b,∀c∈x,c≠32)->cutL (join b [32])=b|[],h,_=>(h rfl).elim|[x],_,h=>by rw[join_one];exact wF x (h x Qd)|x::y::r,_,h=>by rw[C7];show cutL (x++32::join (y::r) [32])=_;rw[wG _ _ (h x Qd),JU (y::r) Qd fun z a=>h z (by simp[a])]
def JV(K:Nat):∀(b:List (List UInt8)),(∀x∈b,x.length<=K)->(join b [32]).length<=(K+1)*b.length|[],_=>by rw[join_nil];simp|[x],h=>by rw[join_one];have:=h x Qd;simp;omega|x::y::r,h=>by rw[C7];have e:=h x Qd;have a:=JV K (y::r) fun z d=>h z (by simp[d]);simp only[hK,L',w9]at a |-;rw[vV]at a |-;rw[vV];omega
end Go.Proofs
