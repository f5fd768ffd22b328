import Derived.Test.YthmhdmfahlkpmaaGreatDoorMg11
import Derived.SevenTiedAt
import Derived.Test.YthmhdmfahlkpmaaGreatDoorRows
set_option linter.all false
set_option maxRecDepth 100000
set_option maxHeartbeats 16000000
namespace Go.Proofs
open Tryz
open Go.RowKit
variable {x x' w:World} {lo hi n c n2 c2:Nat} {A A2:i'} {ps:z1} {es2:e6}
noncomputable def cuBody:Code:=Tryz.f3.body.getD .skip
noncomputable def cu1:Code:=cTl cuBody
noncomputable def cuA:Code:=cHd cu1
noncomputable def cuR:Code:=cTl cu1
def cuT(g d:i')(i h f e:Nat)(k j:Int)(s:ByteArray)(a b:Nat):Array Value:=#[.agg #[.slice g i h,.slice d f e],.agg #[k,j],.string s,.pointer (some a),.pointer (some b),undef,.bool false,zu,zu,zu,zu,zu,zu,zu,zu,zu,.bool true,.bool false,zu,zu,zu,zu,zu,zu,zu,zu,zu,zu,zu,zu,zu,zu,zu,zu,zu,zu,zu,zu,zu,zu,zu,zu,zu,zu,zu,zu,zu,zu,zu,zu,zu,zu,zu,zu,zu,zu,zu,zu,zu,zu,zu,zu,zu,zu,zu,zu,zu,zu,zu,zu,zu,zu,zu,zu,zu,zu,zu,zu,zu,zu,zu,zu,zu,zu,zu,zu,zu,zu,zu,zu,zu,zu,zu,zu,zu,zu,zu,zu,zu,zu,zu,zu,zu,zu,zu,zu,zu,zu,zu,zu,zu,zu,zu,zu,zu,zu,zu,zu,zu,zu,zu,zu,zu,zu,zu,zu,zu,zu,zu,zu,zu,zu,zu,zu,zu,zu,zu,zu,zu,zu,zu,zu,zu,zu,zu,zu,zu,zu,zu,zu,zu]
def M8(y t:i')(B z v u:Nat)(k K:Int)(s:ByteArray)(D E:Nat)(ps:z1)(H:e6)(w:World)(L:BookAt w y z ps t u H)(m:ps.length=B)(i:H.length=v)(j:¬(FewR ps H/\s.size<=20))(d:w.heap[D]?=some (.cells #[.slice y B z,.slice t v u] 25))(f:w.heap[E]?=some (.cells #[k,K] 27)):cuR.wp prog (bodyPost prog Tryz.f3 (Qt w true)) ⟨cuT y t B z v u k K s D E,[]⟩ w:=by
 have g:=w0 fun W (I:QB w W)=>(EL y t z u B v ps H W (L.below I) m i).mono (R':=fun e C=>(e=.returned false∨(e=.returned true/\FewR ps H))/\QB W C) fun e C h=>⟨by obtain⟨r,rfl,o⟩:=h.1;cases r with
  |false=>exact .inl rfl|true=>exact .inr ⟨rfl,o rfl⟩,h.2⟩;have l:=w0 j;have p:=bk2 d;have q:=bk2 f;have a:QB w w:=l3 _ _;clear L m i j;simp only[cHd,cTl,cuR,cu1,cuBody,Tryz.f3,M0,cuT];by_cases G:20<s.size
 .have F:(20:Int)<(s.size:Int):=Qa
  go_wp2_with (go_at_call 5;refine(g.out _ a).mono ?_;rintro e M ⟨o,b⟩;have d:=Zx b d;have f:=Zx b f;have a:=via a b;clear p q;have p:=bk2 d;have q:=bk2 f;rcases o with rfl|⟨rfl,-⟩);all_goals go_ret;exact⟨rfl,a⟩
 .go_wp2_with (go_at_call 5;refine(g.out _ a).mono ?_;rintro e M ⟨o,b⟩;have d:=Zx b d;have f:=Zx b f;have a:=via a b;clear p q;have p:=bk2 d;have q:=bk2 f;rcases o with rfl|⟨rfl,J⟩;rotate_left;exact absurd ⟨J,Qa⟩ l.out);go_ret;exact⟨rfl,a⟩
structure CpR (x:World)(lo hi:Nat)(A:i')(n c:Nat)(A2:i')(n2 c2:Nat)(ps:z1)(es2:e6):Prop where
 parts:x.ownsRow lo 70 5 (.slice A n c) n (ps.flatMap Pa.cs)
 ents:EnsOwn x lo (.slice A2 n2 c2) es2
 h1:∀r,(Value.slice A n c).ownBlock=some r->r<hi
 h2:∀r,(Value.slice A2 n2 c2).ownBlock=some r->r<hi
 h3:∀y∈es2,∀g,y.A=some g->g.block<hi
def CpR.below(h:CpR x lo hi A n c A2 n2 c2 ps es2)(hb:QB x x'):CpR x' lo hi A n c A2 n2 c2 ps es2:=⟨ZI h.parts hb,h.ents.below hb,h.h1,h.h2,h.h3⟩
def EnsOwn.kept{w':World} {base:Nat} {v:Value} {f:e6} (h:EnsOwn w base v f)(i:w.heap.size<=w'.heap.size)(b:∀r,v.ownBlock=some r->w'.heap[r]?=w.heap[r]?)(d:∀x∈f,∀g,x.A=some g->w'.heap[g.block]?=w.heap[g.block]?):EnsOwn w' base v f:=⟨Z1 h.own b,fun x a=>⟨lE (h.row x a).1 i (d x a),(h.row x a).2.1,fun g e=>⟨((h.row x a).2.2 g e).1,h8 ((h.row x a).2.2 g e).2.1 i,((h.row x a).2.2 g e).2.2⟩⟩⟩
def CpR.other{b:Nat} (h:CpR x lo hi A n c A2 n2 c2 ps es2)(d:OnlyB b x x')(f:¬(lo<=b/\b<hi)):CpR x' lo hi A n c A2 n2 c2 ps es2:=by
 refine⟨Z1 h.parts fun r e=>d.other r fun a=>f ?_,h.ents.kept (d.below 0 (k2 _)).size (fun r e=>d.other r fun a=>f ?_) (fun y i g e=>d.other _ fun a=>f ?_),h.h1,h.h2,h.h3⟩;·rw[<-a];exact⟨(h.parts.lt r e).1,h.h1 r e⟩
 .rw[<-a];exact⟨(h.ents.own.lt r e).1,h.h2 r e⟩
 .rw[<-a];exact⟨((h.ents.row y i).2.2 g e).1,h.h3 y i g e⟩
def NA{P:aA} {f:aE} {o:Oper} {Own:hN} {R:cC} (p q:Operand)(t:aN)(j:o.op=.store t p q)(b:Nat)(r cs:hD)(T:aN)(y:f p=.pointer (some b))(hq:f q=.agg r.toArray)(a:(sizeOf t).run P w=.ok r.length w)(s:w.heap[b]?=some (.cells cs.toArray T))(i:cs.length=r.length)(e:∀u∈r,u.oneCell'=true)(g:Own b)(h:OnlyB b w w->∀x',x'.heap[b]?=some (.cells r.toArray T)->R x'):∃x' d,(execOp f o).run P w=.ok .skip x'/\Own d/\OnlyB d w x'/\R x':=by obtain⟨x',k,l,-,m⟩:=GG p q t j b r cs T y hq a s i e;exact⟨x',b,k,g,l,h (OnlyB.refl _ _) x' m⟩
def furB:ByteArray:=ByteArray.mk #[102,117,114,116,104,101,114]
def Jg(l:L'):l.flatMap Zc=l.map (Value.int .i64):=by induction l with|nil=>rfl|cons a l ih=>simp[Zc,ih]
def Jh(pA eA:i')(G pc C ec:Nat)(k l:Int)(s:ByteArray)(b3 b4:Nat)(ps:z1)(H:e6)(w:World)(hB:BookAt w pA pc ps eA ec H)(R:ps.length=G)(aB:H.length=C)(hF:FewR ps H)(gM:s.size<=20)(I:w.heap[b3]?=some (.cells #[.slice pA G pc,.slice eA C ec] 25))(J:w.heap[b4]?=some (.cells #[k,l] 27)):cuR.wp prog (bodyPost prog Tryz.f3 (Qt w true)) ⟨cuT pA eA G pc C ec k l s b3 b4,[]⟩ w:=by
 have eV:C<=900:=by have:=hF.e;omega
 have eI:=w0 (fun W (B:QB w W)=>(EL pA eA pc ec G C ps H W (hB.below B) R aB).mono (R':=fun e w'=>(e=.returned false∨e=.returned true)/\QB W w') fun e w' h=>⟨(by obtain⟨r,rfl,O⟩:=h.1;cases r;exact .inl rfl;exact .inr rfl),h.2⟩);have cN:=w0 fun W (B:QB w W)=>Es pA eA pc ec G C ps H W (hB.below B) hF.fewB R aB eV;have bS:=w0 fun x (B:QB w x)=>Ew pA eA pc ec G C ps H k l x (hB.below B) hF.fewB R aB;have bN:=w0 fun x=>kQ s x Qa;have hZ:=w0 fun x=>An (ByteArray.mk #[]) 0 0 0 0 0 none none [] 0 0 0 x (fun k y h=>by simp at h) (fun k y h=>by simp at h) rfl Qc;have cY:∀x,(sizeOf 34).run prog x=.ok 7 x:=fun x=>Qb
 have gD:¬(20:Int)<(s.size:Int):=Qa
 have U:=bk2 I;have Y:=bk2 J;have t:QB w w:=l3 _ _;by_cases cS:hT s.data.toList=true/\N0 ps H k l=0/\∃r,solvedL G (exs H) (ZE ps k l)=some r;case neg=>
  have aL:=w0 (show hT s.data.toList=true->N0 ps H k l=0->∀x,QB w x->Calls prog 10 #[.agg #[.slice pA G pc,.slice eA C ec]] x (Qt x false) from fun h0 X x B=>by
   have hR:BookR ps H:=(nI.1 X).1;have aM:=hR.n1;have aD:=hR.right;have aN:G<=4:=by have:=hF.p;have:=hR.n5;omega
   rw[R]at aM aD;have h:=MU pA eA pc ec G C H x aD (hB.E.below B) aB aM aN;have cW:tZ G H=false:=by unfold tZ;cases hs:solvedL G (exs H) (ZE ps k l)with
    |none=>rw[(MQ aD aM aN (ws:=ZE ps k l) (by rw[<-R];simp[ZE])).2 hs];rfl|some r=>exact absurd ⟨h0,X,r,hs⟩ cS
   rw[cW]at h;exact h);have bM:=w0 (fun x A1 c1 A2 c2 es2 (F:CopyAt x A1 c1 ps A2 c2 H es2)=>(KO A1 A2 c1 c2 G C ps es2 k l s x F.at_ (hF.fewB.sig F.sig) R (F.len.trans aB) Qa).mono (R':=Qt x (.tuple #[lR,.int .i64 (if hT s.data.toList=false then 4 else if N0 ps H k l=0 then 12 else N0 ps H k l)])) fun e w' h=>(by
   have hg:=h.1;unfold tF at hg;rw[M5 F.sig]at hg;by_cases h0:hT s.data.toList=false;·rw[Zde h0]at hg |-;exact⟨hg,h.2⟩
   .rw[q' h0]at hg |-;by_cases X:N0 ps H k l=0;·rw[q' (by simpa using X),R,nU F.sig]at hg;rw[Zde X];cases hs:solvedL G (exs H) (ZE ps k l)with
     |none=>rw[hs]at hg;exact⟨hg,h.2⟩|some r=>exact absurd ⟨by simpa using h0,X,r,hs⟩ cS
    .rw[Zde X]at hg;rw[q' X];exact⟨hg,h.2⟩));obtain⟨E1,aV⟩:=Qu (N0 ps H k l);obtain⟨NB,dQ⟩:=Qu (hT s.data.toList);rw[aV]at bS;rw[aV,dQ]at bM aL;rw[dQ]at bN;obtain⟨D,hD⟩:=Qu (if NB=false then 4 else if E1=0 then 12 else E1);rw[hD]at bM;have bL:=w0 hD;clear hB hF R aB aV dQ cS hD;simp only[cHd,cTl,cuR,cu1,cuBody,Tryz.f3,M0,cuT];go_wp2_with (go_at_call 5;refine(eI.out _ t).mono ?_;rintro e w2 ⟨O,aX⟩;have I:=Zx aX I;have J:=Zx aX J;have t:=via t aX;clear U Y;have U:=bk2 I;have Y:=bk2 J;rcases O with rfl|rfl);·go_ret;exact⟨rfl,t⟩
  refine p5 Qb ?_;apply tN w [1,4,8] 9 (fun j=>if j=4 then [1]else []) (fun j g=>if j=1 then .agg #[.slice g.a1 G g.c1,.slice g.a2 C g.c2]else if j=4 then .tuple #[.agg (List.toArray ([.string (ByteArray.mk #[]),.int .i64 0,.int .i64 0,.int .i64 0,.int .i64 0,.int .i64 0,.slice none 0 0])),D]else .pointer (some g.b)) (fun j h x=>if j=1 then ∃es2,CopyAt x h.a1 h.c1 ps h.a2 h.c2 H es2 else if j=4 then True else w2.heap.size<=h.b/\x.heap[h.b]?=some (.cells #[.string (ByteArray.mk #[]),(0:Int),(0:Int),(0:Int),(0:Int),(0:Int),.slice none 0 0] 34)) (fun g' x=>(w2.heap.size<=(g' 8).b/\x.heap[(g' 8).b]?=some ((fun g:Gh=>.cells (List.toArray ([.string (ByteArray.mk #[]),.int .i64 0,.int .i64 0,.int .i64 0,.int .i64 0,.int .i64 0,.slice none 0 0])) 34) (g' 4)))/\(fun h:Gh=>True) (g' 4));case hB=>kernel_rfl
  case hB'=>intro g;kernel_rfl
  case hS|hN|hD=>kernel_rfl
  case hdn=>decide
  case hk=>decide
  case hkd=>kernel_rfl
  case hw=>exact t
  case hq=>
   intro g u hu bY bX bV;have U:=bk2 (Zx hu I);have Y:=bk2 (Zx hu J);simp only[mixL,yieldsC,l5,n7,Nat.reduceAdd,Nat.reduceBEq,m',o7,sS,p',k7,nK,ZyJ,ZyI,r5,Nat.reduceEqDiff];repeat (go_big_quiet_step (fail))
   exact ZyG rfl
  case hR=>
   intro j h x x' O B;by_cases e:j=1;·rw[Zde e]at O |-;obtain⟨es2,h2⟩:=O;exact⟨es2,h2.below B⟩
   rw[q' e]at O |-;by_cases e2:j=4;·rw[Zde e2]at O |-;trivial
   rw[q' e2]at O |-;exact⟨O.1,Zx B O.2⟩
  case hR'=>intro g x x' bB B;refine⟨⟨bB.1.1,Zx B bB.1.2⟩,?_⟩;have O:=bB.2;trivial
  case hind=>exact Qx
  case hmake=>
   intro j Z o M g x F aI hdep;simp only[ZBq,ZBH,ZyH]at Z;rcases Z with rfl|rfl|rfl;·simp only[p0,B4,M3]at M;subst M;refine zA Qb ((cN.out x aI).mono ?_);rintro e x' ⟨⟨A1,c1,A2,c2,es2,rfl,hO⟩,B⟩;exact⟨_,rfl,⟨{Gh.zero with a1:=A1,c1:=c1,a2:=A2,c2:=c2},rfl,es2,hO⟩,B⟩
   .simp only[p0,B4,M3]at M;subst M;obtain⟨es2,X⟩:∃es2,CopyAt x (g 1).a1 (g 1).c1 ps (g 1).a2 (g 1).c2 H es2:=hdep 1 Qd;refine zA Qb ((bM.out x _ _ _ _ es2 X).mono ?_);(rintro e x' ⟨rfl,B⟩;exact⟨_,rfl,⟨Gh.zero,rfl,trivial⟩,B⟩)
   .simp only[p0,B4,M3]at M;subst M;refine G1 (x:=x.alloc (.cells #[.string (ByteArray.mk #[]),(0:Int),(0:Int),(0:Int),(0:Int),(0:Int),.slice none 0 0] 34)) (v:=.pointer (some x.heap.size)) Qb ?_;exact⟨⟨{Gh.zero with b:=x.heap.size},rfl,F.size,ZA _ _ rfl⟩,ZC _ _⟩
  case hst=>intro o M g' x F aI aA;simp only[p0,B4,M3]at M;subst M;have h7:w2.heap.size<=(g' 8).b/\x.heap[(g' 8).b]?=some (.cells #[.string (ByteArray.mk #[]),(0:Int),(0:Int),(0:Int),(0:Int),(0:Int),.slice none 0 0] 34):=aA 8 Qd;have h3:(fun h:Gh=>True) (g' 4):=aA 4 Qd;refine MZ (.tmp 7) (.tmp 32) 34 rfl (g' 8).b ([.string (ByteArray.mk #[]),.int .i64 0,.int .i64 0,.int .i64 0,.int .i64 0,.int .i64 0,.slice none 0 0]) [.string (ByteArray.mk #[]),.int .i64 0,.int .i64 0,.int .i64 0,.int .i64 0,.int .i64 0,.slice none 0 0] 34 rfl rfl (cY _) h7.2 rfl (by simp[Value.oneCell']) ?_;intro x' r2 r4;refine⟨⟨⟨h7.1,r4⟩,?_⟩,F.trans (r2.below _ h7.1)⟩;trivial
  intro g3 u3 h7 F aT;dsimp only at h7;obtain⟨⟨cR,N⟩,h3⟩:=h7;obtain⟨b5,aY⟩:=Qu ((g3 8).b);rw[aY]at cR N;simp only[aY];have I:=Zx F I;have J:=Zx F J;clear U Y t aY;have t:=aT;clear aT F;have U:=bk2 I;have Y:=bk2 J;have D5:=bk7 N;cases NB with
  |false=>
   obtain rfl:4=D:=by have:=bL.out;rwa [Zde rfl]at this
   clear bL aL;go_wp2_with (first|(go_at_call 8;refine(bN.out _).mono ?_;rintro e w5 ⟨rfl,rfl⟩)|(go_at_call 11;refine(hZ.out _).mono ?_;rintro e w9 ⟨rfl,T⟩;have I:=Zx T I;have J:=Zx T J;have N:=Zx T N;have t:=via t T;clear U Y D5;have U:=bk2 I;have Y:=bk2 J;(have D5:=bk7 N)));go_ret;exact⟨rfl,t⟩|true=>
   by_cases X:E1=0
   .obtain rfl:12=D:=by have:=bL.out;rwa [q' Qc,Zde X]at this
    have eK:=w0 (aL.out rfl X);clear bL aL;subst X;have aL:=eK;go_wp2_with (first|(go_at_call 8;refine(bN.out _).mono ?_;rintro e w5 ⟨rfl,rfl⟩)|(go_at_call 9;refine(bS.out _ t).mono ?_;rintro e w6 ⟨rfl,Q⟩;have I:=Zx Q I;have J:=Zx Q J;have N:=Zx Q N;have t:=via t Q;clear U Y D5;have U:=bk2 I;have Y:=bk2 J;(have D5:=bk7 N))|(go_at_call 10;refine(aL.out _ t).mono ?_;rintro e w6 ⟨rfl,Q⟩;have I:=Zx Q I;have J:=Zx Q J;have N:=Zx Q N;have t:=via t Q;clear U Y D5;have U:=bk2 I;have Y:=bk2 J;(have D5:=bk7 N))|(go_at_call 11;refine(hZ.out _).mono ?_;rintro e w9 ⟨rfl,T⟩;have I:=Zx T I;have J:=Zx T J;have N:=Zx T N;have t:=via t T;clear U Y D5;have U:=bk2 I;have Y:=bk2 J;(have D5:=bk7 N)));go_ret;exact⟨rfl,t⟩
   .obtain rfl:E1=D:=by have:=bL.out;rwa [q' Qc,q' X]at this
    have gV:(E1==0)=false:=by simpa using X
    have gW : (E1 != 0) = true := by simpa using X
    have gX:(E1==E1)=true:=Qd
    clear bL aL;go_wp2_with (first|(go_at_call 8;refine(bN.out _).mono ?_;rintro e w5 ⟨rfl,rfl⟩)|(go_at_call 9;refine(bS.out _ t).mono ?_;rintro e w6 ⟨rfl,Q⟩;have I:=Zx Q I;have J:=Zx Q J;have N:=Zx Q N;have t:=via t Q;clear U Y D5;have U:=bk2 I;have Y:=bk2 J;(have D5:=bk7 N))|(go_at_call 11;refine(hZ.out _).mono ?_;rintro e w9 ⟨rfl,T⟩;have I:=Zx T I;have J:=Zx T J;have N:=Zx T N;have t:=via t T;clear U Y D5;have U:=bk2 I;have Y:=bk2 J;(have D5:=bk7 N)));go_ret;exact⟨rfl,t⟩
 case pos=>
  obtain⟨dV,X,r,aO⟩:=cS;have hR:BookR ps H:=(nI.1 X).1;have ha:hU k l=0:=(nI.1 X).2;have dE:k=0∨k=1:=(kS.1 ha).1;have aM:=hR.n1;have aD:=hR.right;have aN:G<=4:=by have:=hF.p;have:=hR.n5;omega
  have dW:=hR.worths k l;have cZ:(ZE ps k l).length=G:=by rw[<-R];simp[ZE]
  obtain⟨m,d,p⟩:=r;rw[<-R]at aO;obtain⟨V,hV⟩:=Qu (X2 k (dotL (ZE ps k l) m) d);obtain⟨k1,k2,k3,k4⟩:=Jf hR Qa dV ha aO hV;obtain⟨v1,v2,-⟩:=EA hR dE aO;rw[hV]at v1 v2;rw[R]at aM aD aO;have hS:=GB aD aM aN cZ dW aO;have eU:P1 G H≠[]:=fun h0=>by rw[(MQ aD aM aN cZ).1 h0]at aO;cases aO
  obtain⟨c0,l0,bP⟩:∃c0 l0,P1 G H=c0::l0:=by cases hh:P1 G H with|nil=>exact absurd hh eU|cons a b=>exact⟨a,b,rfl⟩
  have cW:tZ G H=true:=by unfold tZ;rw[bP];rfl
  have aL:=w0 fun x (B:QB w x)=>MU pA eA pc ec G C H x aD (hB.E.below B) aB aM aN;rw[cW]at aL;have eS:=It aD aM aN cZ aO bP;obtain⟨gm,-⟩:=pU (ZE ps k l) l0 c0 fun x hx=>by have:=(vJ aD aN (c:=x) (by rw[bP];exact hx)).mix.d1;omega
  have eP:=(vJ aD aN (c:=leastC (ZE ps k l) c0 l0) (by rw[bP];exact gm)).mix;have dF:k0 k (dotL (ZE ps k l) (leastC (ZE ps k l) c0 l0).2) / (leastC (ZE ps k l) c0 l0).1=V:=by rw[<-hV,GF (by have:=hS.mix.d1;omega)];exact GD (by have:=eP.d1;omega) (by have:=hS.mix.d1;omega) eS k
  have eD:=w0 fun x (B:QB w x)=>Je pA eA pc ec G C ps H k l x (hB.P.below B) R aD (hB.E.below B) aB aM aN dE dW bP;rw[dF]at eD;rw[X]at bS;rw[dV]at bN;have bM:=w0 (fun x A1 c1 A2 c2 es2 (F:CopyAt x A1 c1 ps A2 c2 H es2)=>(KO A1 A2 c1 c2 G C ps es2 k l s x F.at_ (hF.fewB.sig F.sig) R (F.len.trans aB) Qa).mono (R':=fun e w'=>(∃A c,e=.returned (.tuple #[.agg #[.string s,k,l,V,p.den,p.lev,.slice A C c],(0:Int)])/\w'.ownsRow x.heap.size 3 1 (.slice A C c) C (p.W.map (Value.int .i64)))/\QB x w') fun e w' h=>(by have hg:=h.1;unfold tF at hg;rw[dV,q' Qc,M5 F.sig,X,q' Qc,R,nU F.sig,aO,F.len,aB]at hg;dsimp only at hg;rw[hV]at hg;exact⟨hg,h.2⟩));have aK:=hS.wt;rw[aB]at aK;have eL:=w0 fun A c x (B:QB w x)(hM:At 1 Zc x A p.W)=>(by have h:=Ee pA eA A pc ec G C c C ps H s k l V p.den p.lev p.W x (hB.below B) hF.fewB hR R aB Qa hM aK.len Qa;rw[k2]at h;exact h);have eJ:=w0 fun A c x (hM:At 1 Zc x A p.W)=>(by have h:=Iv A c C p.den p.lev p.W x hM aK.len Qa (by have:=aK.d1;have:=aK.dK;omega) aK.lK (fun y hy=>by have:=aK.w y hy;omega);rw[hS.plow]at h;exact h);have cM:=w0 fun A c x (hM:At 1 Zc x A p.W)=>Ak s k l V p.den p.lev A p.W c C x hM aK.len Qa;have eE:=w0 fun x A1 c1 A2 c2 es2 A c (F:CopyAt x A1 c1 ps A2 c2 H es2)(hM:At 1 Zc x A p.W)=>(by have h:=vA A1 A2 A c1 c2 G C c C ps es2 s k l V p.den p.lev p.W x F.at_ (hF.fewB.sig F.sig) R (F.len.trans aB) Qa hM aK.len Qa;rw[LU F.sig,k1]at h;exact h);obtain⟨E1,aV⟩:=Qu (E5 ps H s k l (V+1) p.den p.lev p.W);rw[aV]at k3;have dB:=w0 fun x A1 c1 A2 c2 es2 A c (F:CopyAt x A1 c1 ps A2 c2 H es2)(hM:At 1 Zc x A p.W)=>(by have h:=vA A1 A2 A c1 c2 G C c C ps es2 s k l (V+1) p.den p.lev p.W x F.at_ (hF.fewB.sig F.sig) R (F.len.trans aB) Qa hM aK.len Qa;rw[LU F.sig,aV]at h;exact h);obtain⟨p1,p2,W⟩:=p;simp only at bM eL eJ cM eE dB k4;have eY:=w0 k3;have fS:∀x,(sizeOf 25).run prog x=.ok 2 x:=fun x=>Qb
  have hCo:=w0 fun W (B:QB w W)=>ER pA eA pc ec G C ps H W (hB.below B) hF.fewB R aB eV;have cD:=w0 aK.len;have gY:=v1;have gZ:=v2;clear k1 k2 k3 aO hS eU gm eP eS dF aV hV v1 v2 bP cW dW cZ;simp only[cHd,cTl,cuR,cu1,cuBody,Tryz.f3,M0,cuT];go_wp2_with (go_at_call 5;refine(eI.out _ t).mono ?_;rintro e w2 ⟨O,aX⟩;have I:=Zx aX I;have J:=Zx aX J;have t:=via t aX;clear U Y;have U:=bk2 I;have Y:=bk2 J;rcases O with rfl|rfl);·go_ret;exact⟨rfl,t⟩
  refine p5 Qb ?_;apply tN w [1,4,8] 9 (fun j=>if j=4 then [1]else []) (fun j g=>if j=1 then .agg #[.slice g.a1 G g.c1,.slice g.a2 C g.c2]else if j=4 then .tuple #[.agg (List.toArray [.string s,.int .i64 k,.int .i64 l,.int .i64 V,.int .i64 p1,.int .i64 p2,.slice g.a1 C g.c1]),(0:Int)]else .pointer (some g.b)) (fun j h x=>if j=1 then ∃es2,CopyAt x h.a1 h.c1 ps h.a2 h.c2 H es2 else if j=4 then (x.ownsRow w2.heap.size 3 1 (.slice h.a1 C h.c1) C (W.map (Value.int .i64)))else w2.heap.size<=h.b/\x.heap[h.b]?=some (.cells #[.string (ByteArray.mk #[]),(0:Int),(0:Int),(0:Int),(0:Int),(0:Int),.slice none 0 0] 34)) (fun g' x=>(w2.heap.size<=(g' 8).b/\x.heap[(g' 8).b]?=some ((fun g:Gh=>.cells (List.toArray [.string s,.int .i64 k,.int .i64 l,.int .i64 V,.int .i64 p1,.int .i64 p2,.slice g.a1 C g.c1]) 34) (g' 4)))/\(fun h:Gh=>(x.ownsRow w2.heap.size 3 1 (.slice h.a1 C h.c1) C (W.map (Value.int .i64)))) (g' 4));case hB=>kernel_rfl
  case hB'=>intro g;kernel_rfl
  case hS|hN|hD=>kernel_rfl
  case hdn=>decide
  case hk=>decide
  case hkd=>kernel_rfl
  case hw=>exact t
  case hq=>
   intro g u hu bY bX bV;have U:=bk2 (Zx hu I);have Y:=bk2 (Zx hu J);simp only[mixL,yieldsC,l5,n7,Nat.reduceAdd,Nat.reduceBEq,m',o7,sS,p',k7,nK,ZyJ,ZyI,r5,Nat.reduceEqDiff];repeat (go_big_quiet_step (fail))
   exact ZyG rfl
  case hR=>
   intro j h x x' O B;by_cases e:j=1;·rw[Zde e]at O |-;obtain⟨es2,h2⟩:=O;exact⟨es2,h2.below B⟩
   rw[q' e]at O |-;by_cases e2:j=4;·rw[Zde e2]at O |-;(exact ZI O B)
   rw[q' e2]at O |-;exact⟨O.1,Zx B O.2⟩
  case hR'=>intro g x x' bB B;refine⟨⟨bB.1.1,Zx B bB.1.2⟩,?_⟩;have O:=bB.2;(exact ZI O B)
  case hind=>exact Qx
  case hmake=>
   intro j Z o M g x F aI hdep;simp only[ZBq,ZBH,ZyH]at Z;rcases Z with rfl|rfl|rfl;·simp only[p0,B4,M3]at M;subst M;refine zA Qb ((cN.out x aI).mono ?_);rintro e x' ⟨⟨A1,c1,A2,c2,es2,rfl,hO⟩,B⟩;exact⟨_,rfl,⟨{Gh.zero with a1:=A1,c1:=c1,a2:=A2,c2:=c2},rfl,es2,hO⟩,B⟩
   .simp only[p0,B4,M3]at M;subst M;obtain⟨es2,X⟩:∃es2,CopyAt x (g 1).a1 (g 1).c1 ps (g 1).a2 (g 1).c2 H es2:=hdep 1 Qd;refine zA Qb ((bM.out x _ _ _ _ es2 X).mono ?_);(rintro e x' ⟨⟨A,c,rfl,hO⟩,B⟩;exact⟨_,rfl,⟨{Gh.zero with a1:=A,c1:=c},rfl,b2 hO F.size⟩,B⟩)
   .simp only[p0,B4,M3]at M;subst M;refine G1 (x:=x.alloc (.cells #[.string (ByteArray.mk #[]),(0:Int),(0:Int),(0:Int),(0:Int),(0:Int),.slice none 0 0] 34)) (v:=.pointer (some x.heap.size)) Qb ?_;exact⟨⟨{Gh.zero with b:=x.heap.size},rfl,F.size,ZA _ _ rfl⟩,ZC _ _⟩
  case hst=>intro o M g' x F aI aA;simp only[p0,B4,M3]at M;subst M;have h7:w2.heap.size<=(g' 8).b/\x.heap[(g' 8).b]?=some (.cells #[.string (ByteArray.mk #[]),(0:Int),(0:Int),(0:Int),(0:Int),(0:Int),.slice none 0 0] 34):=aA 8 Qd;have h3:(fun h:Gh=>(x.ownsRow w2.heap.size 3 1 (.slice h.a1 C h.c1) C (W.map (Value.int .i64)))) (g' 4):=aA 4 Qd;refine MZ (.tmp 7) (.tmp 32) 34 rfl (g' 8).b ([.string s,.int .i64 k,.int .i64 l,.int .i64 V,.int .i64 p1,.int .i64 p2,.slice (g' 4).a1 C (g' 4).c1]) [.string (ByteArray.mk #[]),.int .i64 0,.int .i64 0,.int .i64 0,.int .i64 0,.int .i64 0,.slice none 0 0] 34 rfl rfl (cY _) h7.2 rfl (by simp[Value.oneCell']) ?_;intro x' r2 r4;refine⟨⟨⟨h7.1,r4⟩,?_⟩,F.trans (r2.below _ h7.1)⟩;(exact Z1 h3 fun r e=>r2.other r (HD h3 h7.2 Qc r e))
  intro g3 u3 h7 F aT;dsimp only at h7;obtain⟨⟨cR,N⟩,h3⟩:=h7;obtain⟨b5,aY⟩:=Qu ((g3 8).b);rw[aY]at cR N;simp only[aY];have I:=Zx F I;have J:=Zx F J;clear U Y t aY;have t:=aT;clear aT F;obtain⟨A5,dL⟩:=Qu ((g3 4).a1);obtain⟨c5,dM⟩:=Qu ((g3 4).c1);rw[dL,dM]at N h3;simp only[dL,dM];clear dL dM cR;have S:=w0 h3;clear h3;have U:=bk2 I;have Y:=bk2 J;have D5:=bk7 N;go_wp2_with (first|(go_at_call 8;refine(bN.out _).mono ?_;rintro e w5 ⟨rfl,rfl⟩)|((go_at_call 9;refine(bS.out _ t).mono ?_;rintro e w6 ⟨rfl,Q⟩;have I:=Zx Q I;have J:=Zx Q J;have N:=Zx Q N;have t:=via t Q;clear U Y D5;have U:=bk2 I;have Y:=bk2 J;(have D5:=bk7 N));(replace S:=w0 (ZI S.out Q)))|((go_at_call 10;refine(aL.out _ t).mono ?_;rintro e w6 ⟨rfl,Q⟩;have I:=Zx Q I;have J:=Zx Q J;have N:=Zx Q N;have t:=via t Q;clear U Y D5;have U:=bk2 I;have Y:=bk2 J;(have D5:=bk7 N));(replace S:=w0 (ZI S.out Q)))|(go_at_call 12;refine(eD.out _ t).mono ?_;rintro e w7 ⟨rfl,bO⟩;have I:=Zx bO I;have J:=Zx bO J;have N:=Zx bO N;have t:=via t bO;clear U Y D5;have U:=bk2 I;have Y:=bk2 J;have D5:=bk7 N;(replace S:=w0 (ZI S.out bO))));obtain⟨u0,hx⟩:∃W,W=w7:=⟨_,rfl⟩;rw[<-hx]at I J N t S |-;clear hx bO;refine p5 Qb ?_;apply rT w (fun y=>QB u0 y) [34,36,37] (fun j g=>if j=34 then .agg #[.slice g.a1 G g.c1,.slice g.a2 C g.c2]else if j=36 then .agg #[.string s,k,l,V,p1,p2,.slice g.a1 C g.c1]else .int .i64 0)
   (fun L g y=>(L 34=true->∃es2,CopyAt y (g 34).a1 (g 34).c1 ps (g 34).a2 (g 34).c2 H es2)/\(L 36=true->At 1 Zc y (g 36).a1 W));case hB=>kernel_rfl
  case hB'=>intro g;kernel_rfl
  case hS|hN=>kernel_rfl
  case hC0=>exact l3 _ _
  case hCs=>exact fun y y' h B=>h.trans (B.mono h.size)
  case hCw=>exact fun y h=>via t h
  case h0=>
   intro L h;refine⟨fun h6=>?_,fun h6=>?_⟩;·rw[h 34 Qd]at h6;cases h6
   .rw[h 36 Qd]at h6;cases h6
  case hst=>
   intro L L' g y y' h hJ B;refine⟨fun h6=>?_,fun h6=>?_⟩;·rw[h 34 Qd]at h6;obtain⟨e2,h7⟩:=hJ.1 h6;exact⟨e2,h7.below B⟩
   .rw[h 36 Qd]at h6;exact(hJ.2 h6).below B
  case hq=>
   intro g u hu bY bX bV;have U:=bk2 (Zx hu I);have Y:=bk2 (Zx hu J);have D5:=bk7 (Zx hu N);have hM:=w0 (e7 S.out);have fH:=w0 fun(y:Grew u)=>eL.out A5 c5 y.val (via t (via hu y.ok)) (hM.out.below (via hu y.ok));have fI:=w0 fun(y:Grew u)=>eJ.out A5 c5 y.val (hM.out.below (via hu y.ok));simp only[mixL,yieldsC,l5,n7,Nat.reduceAdd,Nat.reduceBEq,m',o7,sS,p',k7,nK,ZyJ,ZyI,r5,Nat.reduceEqDiff];repeat (go_big_quiet_step (first|(go_at_call 13;with_reducible exact Grew.call (fH.out _))|(go_at_call 14;with_reducible exact Grew.call (fI.out _))))
   exact ZyG rfl
  case hind=>exact Qw
  case hwa=>intro g j Z;simp only[ZBq,ZBH,ZyH]at Z;rcases Z with rfl|rfl|rfl<;>(intro o M;simp only[EN,p0,B4,M3]at M;subst M;kernel_rfl)
  case hsp=>
   intro j Z o M L g y hJ F aI hL bE gL;simp only[ZBq,ZBH,ZyH]at Z;rcases Z with rfl|rfl|rfl
   .simp only[p0,B4,M3]at M;subst M;refine zA Qb ((cN.out y aI).mono ?_);rintro e y' ⟨⟨B1,d1,B2,d2,e2,rfl,hO⟩,B⟩;refine⟨_,rfl,F.trans (B.mono F.size),.inr ⟨{Gh.zero with a1:=B1,c1:=d1,a2:=B2,c2:=d2},rfl,fun _=>?_,fun h6=>?_⟩⟩;·rw[ZX];exact⟨e2,hO⟩
    .rw[ZM Qc]at h6;rw[upd_ne Qc];exact(hJ.2 h6).below B
   .simp only[p0,B4,M3]at M;subst M;refine zA Qb ((cM.out A5 c5 y ((e7 S.out).below F)).mono ?_);rintro e y' ⟨⟨B1,d1,rfl,hO⟩,B⟩;refine⟨_,rfl,F.trans (B.mono F.size),.inr ⟨{Gh.zero with a1:=B1,c1:=d1},rfl,fun h6=>?_,fun _=>?_⟩⟩;·rw[ZM Qc]at h6;rw[upd_ne Qc];obtain⟨e2,h7⟩:=hJ.1 h6;exact⟨e2,h7.below B⟩
    .rw[ZX];exact x2 hO cD.out
   .simp only[p0,B4,M3]at M;subst M;have fF:L 34=true:=bE ⟨34,.data⟩ Qd rfl;have fG:L 36=true:=bE ⟨36,.data⟩ Qd rfl;obtain⟨e2,g1⟩:=hJ.1 fF;have g2:=hJ.2 fG;refine zA Qb ((eE.out y _ _ _ _ e2 _ (g 36).c1 g1 g2).mono ?_);rintro e y' ⟨rfl,B⟩;refine⟨_,rfl,F.trans (B.mono F.size),.inr ⟨Gh.zero,rfl,fun _=>?_,fun _=>?_⟩⟩;·rw[upd_ne Qc];exact⟨e2,g1.below B⟩
    .rw[upd_ne Qc];exact g2.below B
  intro g5 x hJ F aI;clear hJ;have I:=Zx F I;have J:=Zx F J;have N:=Zx F N;replace S:=w0 (ZI S.out F);clear U Y D5 t F;have t:=aI;have U:=bk2 I;have Y:=bk2 J;have D5:=bk7 N;have gG:=tA I;have gI:=tA J;have gK:=tA N;go_wp2_with (first|(go_at_call 16;refine(cM.out _ _ _ (e7 S.out)).mono ?_;rintro e w8 ⟨⟨A6,c6,rfl,aW⟩,bU⟩;have I:=Zx bU I;have J:=Zx bU J;have N:=Zx bU N;have t:=via t bU;clear U Y D5;have U:=bk2 I;have Y:=bk2 J;have D5:=bk7 N;(replace S:=w0 (ZI S.out bU)))|(refine P0 Qh (.tmp 12) (.tmp 106) 34 Qh w8.heap.size [.string s,.int .i64 k,.int .i64 l,.int .i64 V,.int .i64 p1,.int .i64 p2,.slice A6 C c6] [.string (ByteArray.mk #[]),.int .i64 0,.int .i64 0,.int .i64 0,.int .i64 0,.int .i64 0,.slice none 0 0] 34 ?sp ?sq (cY _) ?sb rfl (by simp[Value.oneCell']) ?_));case sp=>rfl
  case sq=>rfl
  case sb=>exact ZA _ _ rfl
  intro w9 M6 eW fA;have aZ:Below w8.heap.size w8 w9:=ZS (ZC _ _) eW (fun b e=>by cases e;exact sW _);have eX:w.heap.size<=w8.heap.size:=t.size;have fO:=tA I;have fP:=tA J;have fQ:=tA N;obtain⟨bG,eR⟩:=Qu w8.heap.size;replace S:=w0 (ZI S.out aZ);replace aW:=w0 (ZI aW aZ);have I:=Zx aZ I;have J:=Zx aZ J;have N:=Zx aZ N;have t:=via t aZ;clear U Y D5;have U:=bk2 I;have Y:=bk2 J;have D5:=bk7 N;rw[eR]at M6 fO fP fQ eX |-;clear eW fA eR aZ;have D6:=bk7 M6;go_wp2;have hO:=(OnlyB.refl bG w9).set 3 (.int .i64 (V+1));obtain⟨W9,cO⟩:=Qu (w9.setCell ⟨bG,3,none⟩ (.int .i64 (V+1)));rw[cO]at hO;have N6:W9.heap[bG]?=some (.cells #[.string s,k,l,.int .i64 (V+1),p1,p2,.slice A6 C c6] 34):=by rw[<-cO];exact ZH (o:=3) M6 _ rfl
  have eQ:Below w.heap.size w9 W9:=hO.below _ eX;rw[cO];replace I:=(hO.other _ Qa).trans I;replace J:=(hO.other _ Qa).trans J;replace N:=(hO.other _ Qa).trans N;replace S:=w0 (Z1 S.out fun r e=>hO.other r (HD S.out M6 Qc r e));replace aW:=w0 (Z1 aW.out fun r e=>hO.other r (HD aW.out M6 Qc r e));clear U Y D5 D6 M6 hO cO;have eT:=t.trans eQ;clear t eQ;have t:=eT;refine p5 Qb ?_;apply yC w [1,3] (fun j=>if j=3 then [1]else []) (fun j g=>if j=1 then .agg #[.slice g.a1 G g.c1,.slice g.a2 C g.c2]else .int .i64 E1) (fun j h x=>if j=1 then ∃es2,CopyAt x h.a1 h.c1 ps h.a2 h.c2 H es2 else True);case hB=>kernel_rfl
  case hB'=>intro g;kernel_rfl
  case hS|hN|hD=>kernel_rfl
  case hdn=>decide
  case hw=>exact t
  case hR=>
   intro j h x x' O B;by_cases e:j=1;·rw[Zde e]at O |-;obtain⟨es2,h2⟩:=O;exact⟨es2,h2.below B⟩
   rw[q' e];trivial
  case hq=>
   intro g u hu bY bX bV;have U:=bk2 (Zx hu I);have D6:=bk7 (Zx hu N6);simp only[mixL,yieldsC,l5,n7,Nat.reduceAdd,Nat.reduceBEq,m',o7,sS,p',k7,nK,ZyJ,ZyI,r5,Nat.reduceEqDiff];repeat (go_big_quiet_step (fail))
   exact ZyG rfl
  case hind=>exact Qz
  case hmake=>
   intro j Z o M g x F aI hdep;simp only[ZBq,ZBH,ZyH]at Z;rcases Z with rfl|rfl;·simp only[p0,B4,M3]at M;subst M;refine zA Qb ((cN.out x aI).mono ?_);rintro e x' ⟨⟨A1,c1,A2,c2,es2,rfl,hO⟩,B⟩;exact⟨_,rfl,⟨{Gh.zero with a1:=A1,c1:=c1,a2:=A2,c2:=c2},rfl,es2,hO⟩,B⟩
   .simp only[p0,B4,M3]at M;subst M;obtain⟨es2,X⟩:∃es2,CopyAt x (g 1).a1 (g 1).c1 ps (g 1).a2 (g 1).c2 H es2:=hdep 1 Qd;refine zA Qb ((dB.out x _ _ _ _ es2 _ c6 X ((x2 aW.out cD.out).below F)).mono ?_);rintro e x' ⟨rfl,B⟩;exact⟨_,rfl,⟨Gh.zero,rfl,trivial⟩,B⟩
  intro g6 x6 h7 F dD;clear h7;have I:=Zx F I;have J:=Zx F J;have N:=Zx F N;replace S:=w0 (ZI S.out F);clear t F aW N6;have t:=dD;clear dD;have U:=bk2 I;have Y:=bk2 J;have D5:=bk7 N;have eH : (E1 != 24 && E1 != 2) = false := by rcases eY.out with h|h<;>rw[h]<;>rfl
  rcases eY.out with h|h<;>subst h;all_goals clear eH;go_wp2
  all_goals
   refine p5 Qb ?_;apply u' w (fun y=>QB x6 y) [1,3,4,5] [6,7] (fun j=>if j=6 then 4 else 5) (fun j=>if j=6 then [1,4]else if j=7 then [3,5]else [])
    (fun j g=>if j=1 then .agg #[.slice g.a1 G g.c1,.slice g.a2 C g.c2]else if j=3 then .agg #[.string s,k,l,V,p1,p2,.slice g.a1 C g.c1]else .pointer (some g.b))
    (fun j f g y=>if j=1 then x6.heap.size<=(g 1).b/\∃es2,es2.length=C/\es2.map En.sig=H.map En.sig/\CpR y (g 1).b (g 1).c3 (g 1).a1 G (g 1).c1 (g 1).a2 C (g 1).c2 ps es2 else if j=3 then x6.heap.size<=(g 3).b/\y.ownsRow (g 3).b 3 1 (.slice (g 3).a1 C (g 3).c1) C (W.flatMap Zc)/\∀r,(Value.slice (g 3).a1 C (g 3).c1).ownBlock=some r->r<(g 3).c3 else if j=4 then y.heap[(g 4).b]?=some (.cells (if f then [.slice (g 1).a1 G (g 1).c1,.slice (g 1).a2 C (g 1).c2]else [.slice none 0 0,.slice none 0 0]).toArray 25 (0,0)) else if j=5 then y.heap[(g 5).b]?=some (.cells (if f then [.string s,.int .i64 k,.int .i64 l,.int .i64 V,.int .i64 p1,.int .i64 p2,.slice (g 3).a1 C (g 3).c1]else [.string (ByteArray.mk #[]),.int .i64 0,.int .i64 0,.int .i64 0,.int .i64 0,.int .i64 0,.slice none 0 0]).toArray 34 (0,0))else True)
    (fun j h b=>if j=1∨j=3 then h.b<=b/\b<h.c3 else b=h.b);case hB=>kernel_rfl
   case hB'=>intro g;kernel_rfl
   case hS|hN=>kernel_rfl
   case hnd=>decide
   case htg=>decide
   case hinj=>decide
   case hD|hkd=>kernel_rfl
   case hC0=>exact l3 _ _
   case hCs=>exact fun y y' h B=>h.trans (B.mono h.size)
   case hCw=>exact fun y h=>via t h
   case hCz=>exact fun y h=>h.size
   case hCo=>exact fun y y' b h M B=>h.trans (M.below _ B)
   case hq=>
    intro g u hu bY bX bV;have U:=bk2 (Zx hu I);have D5:=bk7 (Zx hu N);simp only[hP,e9];simp only[mixL,yieldsC,l5,n7,Nat.reduceAdd,Nat.reduceBEq,m',o7,sS,p',k7,nK,ZyJ,ZyI,r5,Nat.reduceEqDiff];repeat (go_big_quiet_step (fail))
    exact ZyG rfl
   case hRb=>
    intro j f g y y' h B;by_cases e1:j=1;·rw[Zde e1]at h |-;obtain⟨h0,e2,X,h2,h3⟩:=h;exact⟨h0,e2,X,h2,h3.below B⟩
    rw[q' e1]at h |-;by_cases e3:j=3;·rw[Zde e3]at h |-;exact⟨h.1,ZI h.2.1 B,h.2.2⟩
    rw[q' e3]at h |-;by_cases e4:j=4;·rw[Zde e4]at h |-;exact Zx B h
    rw[q' e4]at h |-;by_cases e5:j=5;·rw[Zde e5]at h |-;exact Zx B h
    rw[q' e5];trivial
   case hRg=>
    intro i f g j h y cV hd hst hR;by_cases e1:i=1;·rw[Zde e1]at hR |-;subst e1;rw[upd_ne (s0 cV)];exact hR
    rw[q' e1]at hR |-;by_cases e3:i=3;·rw[Zde e3]at hR |-;subst e3;rw[upd_ne (s0 cV)];exact hR
    rw[q' e3]at hR |-;by_cases e4:i=4;·rw[Zde e4]at hR |-;subst e4;rw[upd_ne (s0 cV)];cases f with
     |false=>exact hR|true=>have:=hst rfl 6 Qd rfl;rw[upd_ne (k:=1) (fun e=>this (by rw[<-e];decide))];exact hR
    rw[q' e4]at hR |-;by_cases e5:i=5;·rw[Zde e5]at hR |-;subst e5;rw[upd_ne (s0 cV)];cases f with|false=>exact hR|true=>have:=hst rfl 7 Qd rfl;rw[upd_ne (k:=3) (fun e=>this (by rw[<-e];decide))];exact hR
    rw[q' e5];trivial
   case hRo=>
    intro i f g b y y' F hR M B hn;by_cases e1:i=1;·rw[Zde e1]at hR |-;rw[Zde (.inl e1)]at hn;subst e1;obtain⟨h0,e2,X,h2,h3⟩:=hR;exact⟨h0,e2,X,h2,h3.other M hn⟩
    rw[q' e1]at hR |-;by_cases e3:i=3;·rw[Zde e3]at hR |-;rw[Zde (.inr e3)]at hn;subst e3;exact⟨hR.1,Z1 hR.2.1 fun r e=>M.other r fun e'=>hn (by rw[<-e'];exact⟨(hR.2.1.lt r e).1,hR.2.2 r e⟩),hR.2.2⟩
    rw[q' e3]at hR |-;rw[q' Qa]at hn;by_cases e4:i=4;·rw[Zde e4]at hR |-;subst e4;exact M.keep (fun e=>hn e.symm) hR
    rw[q' e4]at hR |-;by_cases e5:i=5;·rw[Zde e5]at hR |-;subst e5;exact M.keep (fun e=>hn e.symm) hR
    rw[q' e5];trivial
   case hmake=>
    intro j Z o M g y F hdep;simp only[ZBq,ZBH,ZyH]at Z;rcases Z with rfl|rfl|rfl|rfl
    .simp only[p0,B4,M3]at M;subst M;refine zA Qb ((hCo.out y (via t F)).mono ?_);rintro e y' ⟨⟨A1,c1,A2,c2,es2,rfl,g1,g2,g3,g4⟩,B⟩;refine⟨_,rfl,{Gh.zero with a1:=A1,c1:=c1,a2:=A2,c2:=c2,b:=y.heap.size,c3:=y'.heap.size},rfl,?_,B,fun b aH=>?_⟩;·rw[Zde rfl,ZX];have gU:=g4.own;exact⟨F.size,es2,g1,g2,⟨g3,g4,fun r e=>(g3.lt r e).2,fun r e=>(g4.own.lt r e).2,fun z hz a e=>((g4.row z hz).2.2 a e).2.1⟩⟩
     .rw[Zde (.inl rfl)]at aH;exact aH
    .simp only[p0,B4,M3]at M;subst M;refine zA Qb ((cM.out A5 c5 y ((e7 S.out).below F)).mono ?_);rintro e y' ⟨⟨A1,c1,rfl,hO⟩,B⟩;refine⟨_,rfl,{Gh.zero with a1:=A1,c1:=c1,b:=y.heap.size,c3:=y'.heap.size},rfl,?_,B,fun b aH=>?_⟩;·rw[q' Qc,Zde rfl,ZX];exact⟨F.size,hO,fun r e=>(hO.lt r e).2⟩
     .rw[Zde (.inr rfl)]at aH;exact aH
    .simp only[p0,B4,M3]at M;subst M;refine G1 (x:=y.alloc (.cells #[.slice none 0 0,.slice none 0 0] 25)) (v:=.pointer (some y.heap.size)) Qb ⟨{Gh.zero with b:=y.heap.size},rfl,?_,ZC _ _,fun b aH=>?_⟩;·rw[q' Qc,q' Qc,Zde rfl,ZX];exact ZA _ _ rfl
     .rw[q' Qc]at aH;subst aH;simp
    .simp only[p0,B4,M3]at M;subst M;refine G1 (x:=y.alloc (.cells #[.string (ByteArray.mk #[]),(0:Int),(0:Int),(0:Int),(0:Int),(0:Int),.slice none 0 0] 34)) (v:=.pointer (some y.heap.size)) Qb ⟨{Gh.zero with b:=y.heap.size},rfl,?_,ZC _ _,fun b aH=>?_⟩;·rw[q' Qc,q' Qc,q' Qc,Zde rfl,ZX];exact ZA _ _ rfl
     .rw[q' Qc]at aH;subst aH;simp
   case hstore=>
    intro k' hk o M g y F hR hdep;simp only[ZBq,ZBH,ZyH]at hk;rcases hk with rfl|rfl;·simp only[p0,B4,M3]at M;subst M;have hz:y.heap[(g 4).b]?=some (.cells #[.slice none 0 0,.slice none 0 0] 25):=hR;exact NA (.tmp 14) (.tmp 122) 25 rfl (g 4).b [.slice (g 1).a1 G (g 1).c1,.slice (g 1).a2 C (g 1).c2] [.slice none 0 0,.slice none 0 0] 25 rfl rfl (fS _) hz rfl (by simp[Value.oneCell']) rfl fun _ x' h=>h
    .simp only[p0,B4,M3]at M;subst M;have hz:y.heap[(g 5).b]?=some (.cells #[.string (ByteArray.mk #[]),(0:Int),(0:Int),(0:Int),(0:Int),(0:Int),.slice none 0 0] 34):=hR;exact NA (.tmp 15) (.tmp 124) 34 rfl (g 5).b [.string s,.int .i64 k,.int .i64 l,.int .i64 V,.int .i64 p1,.int .i64 p2,.slice (g 3).a1 C (g 3).c1] [.string (ByteArray.mk #[]),.int .i64 0,.int .i64 0,.int .i64 0,.int .i64 0,.int .i64 0,.slice none 0 0] 34 rfl rfl (cY _) hz rfl (by simp[Value.oneCell']) rfl fun _ x' h=>h
   case hind=>intro j Z;simp only[hP,e9,ZBq,ZBH,ZyH]at Z;rcases Z with rfl|rfl|rfl|rfl|rfl|rfl<;>(intro g h;kernel_rfl)
   intro K x7 F aA
  all_goals
   have fN:=F.size;obtain⟨⟨w1,e2,q1,q2,q3⟩,q4,q5⟩:(x6.heap.size<=(K 1).b/\∃es2,es2.length=C/\es2.map En.sig=H.map En.sig/\CpR x7 (K 1).b (K 1).c3 (K 1).a1 G (K 1).c1 (K 1).a2 C (K 1).c2 ps es2)/\(∀b,(K 1).b<=b/\b<(K 1).c3->b<x7.heap.size)/\∀b,(K 1).b<=b/\b<(K 1).c3->¬((K 3).b<=b/\b<(K 3).c3):=by obtain⟨a1,a2,a3⟩:=aA 1 Qd;exact⟨a1,fun b B=>(a2 b B).2,fun b B=>a3 3 Qd Qc b B⟩
   obtain⟨w3,r1,r2⟩:x6.heap.size<=(K 3).b/\x7.ownsRow (K 3).b 3 1 (.slice (K 3).a1 C (K 3).c1) C (W.flatMap Zc)/\∀r,(Value.slice (K 3).a1 C (K 3).c1).ownBlock=some r->r<(K 3).c3:=(aA 3 Qd).1;obtain⟨dI,s1,s2,s3⟩:x7.heap[(K 4).b]?=some (.cells #[.slice (K 1).a1 G (K 1).c1,.slice (K 1).a2 C (K 1).c2] 25)/\(x6.heap.size<=(K 4).b/\(K 4).b<x7.heap.size)/\¬((K 1).b<=(K 4).b/\(K 4).b<(K 1).c3)/\¬((K 3).b<=(K 4).b/\(K 4).b<(K 3).c3):=by obtain⟨a1,a2,a3⟩:=aA 4 Qd;exact⟨a1,a2 _ rfl,a3 1 Qd Qc _ rfl,a3 3 Qd Qc _ rfl⟩
   obtain⟨dZ,s4,s5,s6,s7⟩:x7.heap[(K 5).b]?=some (.cells #[.string s,k,l,V,p1,p2,.slice (K 3).a1 C (K 3).c1] 34)/\(x6.heap.size<=(K 5).b/\(K 5).b<x7.heap.size)/\¬((K 1).b<=(K 5).b/\(K 5).b<(K 1).c3)/\¬((K 3).b<=(K 5).b/\(K 5).b<(K 3).c3)/\(K 5).b≠(K 4).b:=by obtain⟨a1,a2,a3⟩:=aA 5 Qd;exact⟨a1,a2 _ rfl,a3 1 Qd Qc _ rfl,a3 3 Qd Qc _ rfl,a3 4 Qd Qc _ rfl⟩
   clear aA;generalize (K 1).b=lo at*;generalize (K 1).c3=hi at*;generalize (K 1).a1=A7 at*;generalize (K 1).c1=c7 at*;generalize (K 1).a2=A8 at*;generalize (K 1).c2=c8 at*;generalize (K 3).b=dA at*;generalize (K 3).c3=cT at*;generalize (K 3).a1=A9 at*;generalize (K 3).c1=c9 at*;generalize (K 4).b=bJ at*;generalize (K 5).b=bR at*;have gF:=tA I;have gH:=tA J;have gJ:=tA N;have hA:=t.size;have I:=Zx F I;have dC:=via t F;clear t F J N U Y D5
  all_goals
   obtain⟨i0,fJ,fW,fX,fY⟩:=n9 lD;go_wp2;refine p5 Qb ?_;refine v8 10 _ rfl rfl Qb Qb Qb Qb ?_;simp only[sT,j0];apply lN w (fun y=>X1 w x7 (.slice A8 C c8) (.slice none 0 0) y) [5,7,8] (fun j=>if j=7 then [5]else if j=8 then [7]else []) (fun j g=>if j=5 then .slice (some g.b) G G else if j=7 then .slice (some g.b) 1 1 else .slice g.a1 (C+1) g.c1)
    (fun q g y=>if q=0 then QB x7 y else if q=1 then QB x7 y/\x7.heap.size<=(g 5).b/\y.heap[(g 5).b]?=some (.cells (D3 (List.replicate G 0)) 3) else if q=2 then (QB x7 y/\x7.heap.size<=(g 5).b/\y.heap[(g 5).b]?=some (.cells (D3 (List.replicate G 0)) 3))/\y.heap[(g 7).b]?=some (.cells #[.string furB,.slice (some ⟨(g 5).b,0,none⟩) G G,.int .i64 (-1)] 49) else x7.heap.size<=(g 5).b/\EnsOwn y x6.heap.size (.slice (g 8).a1 (C+1) (g 8).c1) (e2++[⟨furB,some ⟨(g 5).b,0,none⟩,G,List.replicate G 0,-1⟩])/\K2 x7.heap.size (.slice A8 C c8) (.slice (g 8).a1 (C+1) (g 8).c1));case hB=>kernel_rfl
   case hB'=>intro g;kernel_rfl
   case hS|hN=>kernel_rfl
   case hnd=>decide
   case hD=>kernel_rfl
   case hdep=>
    intro k' hk;have:k'=0∨k'=1:=by simp at hk;omega
    rcases this with rfl|rfl<;>decide
   case hC0=>exact X1.refl dC
   case hCs=>exact fun y y' h B=>h.below B
   case hCw=>exact fun y h=>h.1
   case h0=>exact l3 _ _
   case hq=>
    intro g u hu bY bX bV;have U:=bk2 (M9 hu I (fun e=>by have:=(q3.ents.own.lt _ e.symm).1;omega) (fun e=>by cases e));have dH:=bk2 (M9 hu dI (fun e=>s2 ⟨(q3.ents.own.lt _ e.symm).1,q3.h2 _ e.symm⟩) (fun e=>by cases e));simp only[mixL,yieldsC,l5,n7,Nat.reduceAdd,Nat.reduceBEq,m',o7,sS,p',k7,nK,ZyJ,ZyI,r5,Nat.reduceEqDiff];repeat (go_big_quiet_step (fail))
    exact ZyG rfl
   case hR=>
    intro q g y y' O B;by_cases e:q=0;·rw[Zde e]at O |-;exact O.trans (B.mono O.size)
    rw[q' e]at O |-;by_cases e1:q=1;·rw[Zde e1]at O |-;exact⟨O.1.trans (B.mono O.1.size),O.2.1,Zx B O.2.2⟩
    rw[q' e1]at O |-;by_cases e2:q=2;·rw[Zde e2]at O |-;exact⟨⟨O.1.1.trans (B.mono O.1.1.size),O.1.2.1,Zx B O.1.2.2⟩,Zx B O.2⟩
    rw[q' e2]at O |-;exact⟨O.1,O.2.1.below B,O.2.2⟩
   case hind=>exact Qw
   case hsp=>
    intro q j hk o M g y O F;rcases q with _|_|_|q
    .obtain rfl:5=j:=by simpa using hk
     simp only[p0,B4,M3]at M;subst M;have aG:QB x7 y:=O;refine G1 (DE (v:=.int .i64 G) rfl Qb Qb (BD G Qa y)) ⟨F.below (ZC _ _),.inr ⟨{Gh.zero with b:=y.heap.size},rfl,?_⟩⟩;exact⟨aG.trans ((ZC _ _).mono aG.size),by rw[ZX];exact aG.size,by rw[ZX];exact ZA _ _ rfl⟩
    .obtain rfl:7=j:=by simpa using hk
     simp only[p0,B4,M3]at M;subst M;have aG:QB x7 y/\x7.heap.size<=(g 5).b/\y.heap[(g 5).b]?=some (.cells (D3 (List.replicate G 0)) 3):=O;refine G1 (x:=y.alloc (.cells #[.string furB,.slice (some ⟨(g 5).b,0,none⟩) G G,.int .i64 (-1)] 49)) (v:=.slice (some y.heap.size) 1 1) Qb ⟨F.below (ZC _ _),.inr ⟨{Gh.zero with b:=y.heap.size},rfl,?_⟩⟩;refine⟨⟨aG.1.trans ((ZC _ _).mono aG.1.size),?_,?_⟩,?_⟩;·rw[upd_ne Qc];exact aG.2.1
     .rw[upd_ne Qc];exact Zz aG.2.2 _
     .rw[ZX,upd_ne Qc];exact ZA _ _ rfl
    .obtain rfl:8=j:=by simpa using hk
     simp only[p0,B4,M3]at M;subst M;obtain⟨⟨aG,dU,eZ⟩,cX⟩:(QB x7 y/\x7.heap.size<=(g 5).b/\y.heap[(g 5).b]?=some (.cells (D3 (List.replicate G 0)) 3))/\y.heap[(g 7).b]?=some (.cells #[.string furB,.slice (some ⟨(g 5).b,0,none⟩) G G,.int .i64 (-1)] 49):=O;have hE:=(q3.ents.below aG).base w1;have cC:=hE.own;rw[q1]at cC;refine sV (P:=prog) (.tmp 126) (.tmp 132) 23 49 i0 _ (.slice A8 C c8) 48 x6.heap.size C (g 7).b 3 (e2.flatMap En.cs) [.string furB,.slice (some ⟨(g 5).b,0,none⟩) G G,.int .i64 (-1)] 49 rfl rfl rfl Qb fJ fW fX fY rfl Qc Qc rfl cC cX (by simp[Value.oneCell']) Qa (by have:=aG.size;omega) ?_;intro aE aF y' t2 t3 t4;refine⟨F.grown dC.size (fun r e=>by have:=(cC.lt r e).1;omega) (fun r e=>by cases e) t3 (fun r e=>.inl e),.inr ⟨{Gh.zero with a1:=aE,c1:=aF},rfl,?_⟩⟩;refine⟨by rw[upd_ne Qc];exact dU,?_,?_⟩
     .rw[ZX,upd_ne Qc];refine EnsOwn.push hE ?_ ?_ ?_ t3 ?_ t4;·exact(show ZN 3 y (g 5).b (List.replicate G 0)from eZ).at'
      .intro h;cases h
      .intro a e;cases e;exact⟨h9 fN dU,tA eZ,fun e'=>by have X:=(q3.ents.own.lt _ e'.symm).1;have h2:=q3.h2 _ e'.symm;have h3:=q4 _ ⟨X,h2⟩;have h4:x7.heap.size<=(g 5).b:=dU;exact absurd h3 (hQ.2 h4)⟩
      .rw[q1];simpa [En.cs] using t2
     .rw[ZX];rcases t4 with h|h;·exact .inl h
      .exact .inr ⟨_,h,aG.size⟩
    .simp at hk
   intro g y O F
  all_goals
   obtain⟨t1,t2,t3⟩:x7.heap.size<=(g 5).b/\EnsOwn y x6.heap.size (.slice (g 8).a1 (C+1) (g 8).c1) (e2++[(⟨furB,some ⟨(g 5).b,0,none⟩,G,List.replicate G 0,-1⟩:En)])/\K2 x7.heap.size (.slice A8 C c8) (.slice (g 8).a1 (C+1) (g 8).c1):=O;have cE:∀b,¬(lo<=b/\b<hi)->some b≠(Value.slice A8 C c8).ownBlock:=fun b h e=>h ⟨(q3.ents.own.lt _ e.symm).1,q3.h2 _ e.symm⟩;have nN:∀b,some b≠(Value.slice none 0 0).ownBlock:=fun b e=>by cases e
   have fE:∀r,(Value.slice A7 G c7).ownBlock=some r->some r≠(Value.slice A8 C c8).ownBlock:=fun r e e'=>by
    rcases q3.parts.2 with⟨h,-⟩|⟨g',gS,gT,X,-,h3,-⟩;·cases h;cases e
    .cases X;cases e;rcases q3.ents.own.2 with⟨h,-⟩|⟨g',gB,gC,k1,-,k3,-⟩;·cases h;cases e'
     .cases k1;cases e';rw[h3]at k3;cases k3
   have cG:=M9 F dI (cE _ s2) (nN _);have eB:=M9 F dZ (cE _ s5) (nN _);have P3:=M9 F I (cE _ Qa) (nN _);have dY:=bk2 cG;have hG:=F.2.1;generalize (g 5).b=cK at*;generalize (g 8).a1=aE at*;generalize (g 8).c1=aF at*;generalize (g 7).b=gR at*;refine o8 (x:=y.setCell ⟨bJ,1,none⟩ (.slice aE (C+1) aF)) (pB rfl Qb rfl rfl dY.2.1 (by simp[World.frozen?,cG])) ?_;have aC:=(OnlyB.refl bJ y).set 1 (.slice aE (C+1) aF);have cH:=ZH (o:=1) cG (.slice aE (C+1) aF) rfl;obtain⟨W8,dR⟩:=Qu (y.setCell ⟨bJ,1,none⟩ (.slice aE (C+1) aF));rw[dR]at aC cH |-;have fT:W8.heap.size=y.heap.size:=by rw[<-dR,R6]
   have dJ:=aC.keep s7 eB;have Q3:=aC.keep (show b3≠bJ by omega) P3;have fU:QB w W8:=F.1.trans (aC.below _ Qa);have rW:=Z1 (Z1 r1 fun r e=>F.2.2 r (r1.lt r e).2 (cE _ fun h=>q5 _ h ⟨(r1.lt r e).1,r2 r e⟩) (nN _)) fun r e=>aC.other r fun e'=>s3 (by rw[<-e'];exact⟨(r1.lt r e).1,r2 r e⟩);have rP:=Z1 (Z1 q3.parts fun r e=>F.2.2 r (q3.parts.lt r e).2 (fE r e) (nN _)) fun r e=>aC.other r fun e'=>s2 (by rw[<-e'];exact⟨(q3.parts.lt r e).1,q3.h1 r e⟩);have hA10:∀r,(Value.slice aE (C+1) aF).ownBlock=some r->(lo<=r/\r<hi)∨x7.heap.size<=r:=fun r e=>by
    rcases t3 with h|⟨b,h,B⟩;·rw[h]at e;exact .inl ⟨(q3.ents.own.lt r e).1,q3.h2 r e⟩
    .rw[h]at e;cases e;exact .inr B
   have bF:∀z∈e2++[(⟨furB,some ⟨cK,0,none⟩,G,List.replicate G 0,-1⟩:En)],∀a,z.A=some a->(lo<=a.block/\a.block<hi)∨x7.heap.size<=a.block:=fun z hz a e=>by
    rcases C1.1 hz with h|h;·exact .inl ⟨((q3.ents.row z h).2.2 a e).1,q3.h3 z h a e⟩
    .rw[y2.1 h]at e;cases e;exact .inr t1
   have bZ:∀b,(lo<=b/\b<hi)∨x7.heap.size<=b->b≠bJ:=fun b h e=>by
    rcases h with h|h;·exact s2 (e▸h)
    .omega
   have rE:=t2.kept (w':=W8) Qa (fun r e=>aC.other r (bZ r (hA10 r e))) (fun z hz a e=>aC.other _ (bZ _ (bF z hz a e)));have aJ:∀b,(lo<=b/\b<hi)∨x7.heap.size<=b->b<W8.heap.size->¬(dA<=b/\b<cT/\b<x7.heap.size)/\b≠bR:=fun b h B=>by
    rcases h with h|h;·exact⟨fun h'=>q5 b h ⟨h'.1,h'.2.1⟩,fun e=>s5 (e▸h)⟩
    .exact⟨fun h'=>Qa,fun e=>Qa⟩
   have aQ:(e2++[(⟨furB,some ⟨cK,0,none⟩,G,List.replicate G 0,-1⟩:En)]).length=C+1:=by simp[q1]
   have dO:=w0 (show ∀W',W8.heap.size<=W'.heap.size->(∀b,b<W8.heap.size->¬(dA<=b/\b<cT/\b<x7.heap.size)->b≠bR->W'.heap[b]?=W8.heap[b]?)->BookAt W' A7 c7 ps aE aF (e2++[(⟨furB,some ⟨cK,0,none⟩,G,List.replicate G 0,-1⟩:En)])/\W'.heap[bJ]?=some (.cells #[.slice A7 G c7,.slice aE (C+1) aF] 25)from fun W' hz h=>by have kP:=Z1 rP fun r e=>h r (rP.lt r e).2 (aJ r (.inl ⟨(q3.parts.lt r e).1,q3.h1 r e⟩) (rP.lt r e).2).1 (aJ r (.inl ⟨(q3.parts.lt r e).1,q3.h1 r e⟩) (rP.lt r e).2).2;have kE:=rE.kept hz (fun r e=>h r (rE.own.lt r e).2 (aJ r (hA10 r e) (rE.own.lt r e).2).1 (aJ r (hA10 r e) (rE.own.lt r e).2).2) (fun z bC a e=>h _ ((rE.row z bC).2.2 a e).2.1 (aJ _ (bF z bC a e) ((rE.row z bC).2.2 a e).2.1).1 (aJ _ (bF z bC a e) ((rE.row z bC).2.2 a e).2.1).2);have fD:=kE.own;rw[aQ]at fD;refine⟨?_,(h _ (tA cH) (fun h'=>s3 ⟨h'.1,h'.2.1⟩) (s0 s7)).trans cH⟩;obtain⟨A',c',e',X⟩:=y5 (cs:=Pa.cs) (sz:=5) (fun _=>rfl) (by rw[R];exact kP);cases e';exact⟨X,kE.ensAt,by rw[R];exact mU kP,by rw[aQ];exact mU fD,fun z bC=>(kE.row z bC).2.1⟩);clear F cG eB P3 dY rP rE t2 t3 hA10 bF bZ aJ cE fE nN dR aC q3 q4 dI dZ I cH
  all_goals
   have cF:=bk7 dJ;have dX:=b2 rW w3;rw[Jg]at dX;have fR:=w0 dX;have cX:=w0 (show ∀r,(Value.slice A9 C c9).ownBlock=some r->dA<=r/\r<cT/\r<x7.heap.size from fun r e=>⟨(rW.lt r e).1,r2 r e,(r1.lt r e).2⟩);have eN:=tA dJ;have gN:y.heap.size<=W8.heap.size:=Qa
   have gO:W8.heap.size<=y.heap.size:=Qa
   clear fT;obtain⟨i3,Z,fK,fL,fM⟩:=n9 info3;clear rW dX r1 r2 q5;go_wp2_with (at_builtin;refine X0 _ rfl _ _ 30 rfl x6.heap.size 3 i3 (.int .i64 0) 1 8 underlying30 Z fK fL fM rfl Qc _ C _ rfl (fR.out.alloc _) ⟨W8.heap.size,0,none⟩ 1 1 [.int .i64 0] rfl rfl ?c1 ?c2 ?c3 ?c4 ?c5 ?_);case c1=>exact D7 _ [.int .i64 0] _ Qd
   case c2=>intro u hu;simp at hu;subst hu;rfl
   case c3=>unfold maxLen;omega
   case c4=>omega
   case c5=>simp;omega
   intro v' W9 aS cQ _;obtain⟨bH,bK,rfl⟩:=Z3 aS
  all_goals
   have fV:QB w W9:=ZS (via fU (ZC _ _)) cQ fun b e=>by have:=(cX.out b e).1;omega
   have fZ:W8.heap.size<=W9.heap.size:=by have:=cQ.size;simp at this;omega
   have cU:∀b,b<W8.heap.size->¬(dA<=b/\b<cT/\b<x7.heap.size)->W9.heap[b]?=W8.heap[b]?:=fun b B hn=>by rw[cQ.block b Qk fun e=>hn (cX.out b e.symm)];exact(ZC W8 _).block b B
   have cI:=(cU _ eN (fun h=>s6 ⟨h.1,h.2.1⟩)).trans dJ;have cA:∀r,(Value.slice bH (C+1) bK).ownBlock=some r->r≠bR:=HD aS cI Qc;clear cF cQ;have gQ:=bk7 cI;obtain⟨-,U9⟩:=dO.out W9 fZ fun b B X h2=>cU b B X;have gP:=bk2 U9;have s8:=s0 s7;obtain⟨bI,hW⟩:=Qu (W9.setCell ⟨bR,6,none⟩ (.slice bH (C+1) bK));have hO:=(OnlyB.refl bR W9).set 6 (.slice bH (C+1) bK);have bQ:=ZH (o:=6) cI (.slice bH (C+1) bK) rfl;rw[hW]at hO bQ;have dG:bI.heap.size=W9.heap.size:=by rw[<-hW,R6]
   have aR:=Z1 aS fun r e=>hO.other r (cA r e);rw[show W.map (Value.int .i64)++[Value.int .i64 0]=(W++[0]).map (Value.int .i64)from Qd]at aR;have hM:=e7 aR;obtain⟨cL,cJ⟩:=dO.out bI Qa fun b B X h2=>(hO.other b h2).trans (cU b B X);have bW:QB w bI:=fV.trans (hO.below _ Qa);have dH:=bk2 cJ;have cF:=bk7 bQ
  all_goals
   obtain⟨aU,cP⟩:=Qu (e2++[(⟨furB,some ⟨cK,0,none⟩,G,List.replicate G 0,-1⟩:En)]);have bT:=hF.fewB.sig q2;have dP:FewB ps aU:=by
    rw[<-cP];refine⟨bT.p,by simp[q1];omega,bT.pn,fun z hz=>?_,fun z hz=>?_⟩
    .rcases C1.1 hz with h|h;·exact bT.en z h
     .rw[y2.1 h];show furB.size<=1000;decide
    .rcases C1.1 hz with h|h;·exact bT.co z h
     .rw[y2.1 h];simp;omega
   have fB:exs aU=exs H++[(List.replicate G 0,-1)]:=by rw[<-cP,<-nU q2];simp[exs,En.ex]
   rw[cP]at cL aQ;have dN:=w0 (FH A7 aE c7 aF G (C+1) ps aU bI cL dP R aQ);have eM:(W++[0]).length=C+1:=by rw[hK,cD.out];rfl
   have bD:=w0 (show (hI ps aU).2=0->∀x,QB bI x->Calls prog 15 #[.agg #[.slice A7 G c7,.slice aE (C+1) aF],.agg #[.string s,k,l,V,p1,p2,.slice bH (C+1) bK]] x (Qt x (0:Int)) from fun h0 x B=>by have h:=vA A7 aE bH c7 aF G (C+1) bK (C+1) ps aU s k l V p1 p2 (W++[0]) x (cL.below B) dP R aQ Qa (hM.below B) eM Qa;rw[k4 aU _ fB (hY.1 h0)]at h;exact h);obtain⟨BV,eC⟩:=Qu ((hI ps aU).2);rw[eC]at dN bD;have fC:=dG;clear hB hF R aB bT dP fB dO cL hM cP aQ aS aR cA cU hO eM eC k4 hR aD cI dH cF U9 dG fC;subst hW;by_cases h0:BV=0
   .subst h0;have eF:=w0 (bD.out rfl);clear bD;go_wp2_with (first
     |(go_at_call 17;refine dN.out.mono ?_;rintro e gA ⟨rfl,aP⟩;have cJ:=Zx aP cJ;have bQ:=Zx aP bQ;have bA:=via bW aP;have dH:=bk2 cJ;have cF:=bk7 bQ;(have eG:=w0 (eF.out _ aP)))|(go_at_call 15;refine eG.out.mono ?_;rintro e hH ⟨rfl,eO⟩;(have dS:=via bA eO)));go_ret;exact⟨rfl,dS⟩
   .have gE : (BV != 0) = true := by simpa using h0
    clear bD;go_wp2_with (go_at_call 17;refine dN.out.mono ?_;rintro e gA ⟨rfl,aP⟩;(have bA:=via bW aP));go_ret;exact⟨rfl,bA⟩
end Go.Proofs
namespace Go.Proofs
open Tryz
open Go.RowKit Go.Twin Go.Conc
noncomputable def Ji:Code->Code|.seq (.cond _ x _) _=>x|.cond _ x _=>x|c=>c
noncomputable def cu0:Code:=cHd cuBody
noncomputable def cuX:Code:=Ji (cTl cuA)
def vK(g d:i')(i h f e:Nat)(k c:Int)(s:ByteArray)(a b:Nat):Array Value:=#[.agg #[.slice g i h,.slice d f e],.agg #[k,c],.string s,.pointer (some a),.pointer (some b),undef,.bool false,zu,zu,zu,zu,zu,zu,zu,zu,zu,zu,zu,zu,zu,zu,zu,zu,zu,zu,zu,zu,zu,zu,zu,zu,zu,zu,zu,zu,zu,zu,zu,zu,zu,zu,zu,zu,zu,zu,zu,zu,zu,zu,zu,zu,zu,zu,zu,zu,zu,zu,zu,zu,zu,zu,zu,zu,zu,zu,zu,zu,zu,zu,zu,zu,zu,zu,zu,zu,zu,zu,zu,zu,zu,zu,zu,zu,zu,zu,zu,zu,zu,zu,zu,zu,zu,zu,zu,zu,zu,zu,zu,zu,zu,zu,zu,zu,zu,zu,zu,zu,zu,zu,zu,zu,zu,zu,zu,zu,zu,zu,zu,zu,zu,zu,zu,zu,zu,zu,zu,zu,zu,zu,zu,zu,zu,zu,zu,zu,zu,zu,zu,zu,zu,zu,zu,zu,zu,zu,zu,zu,zu,zu,zu,zu]
def cuI(e a:i')(g f d b:Nat)(k c:Int)(s:ByteArray):Array Value:=#[.agg #[.slice e g f,.slice a d b],.agg #[k,c],.string s,zu,zu,zu,zu,zu,zu,zu,zu,zu,zu,zu,zu,zu,zu,zu,zu,zu,zu,zu,zu,zu,zu,zu,zu,zu,zu,zu,zu,zu,zu,zu,zu,zu,zu,zu,zu,zu,zu,zu,zu,zu,zu,zu,zu,zu,zu,zu,zu,zu,zu,zu,zu,zu,zu,zu,zu,zu,zu,zu,zu,zu,zu,zu,zu,zu,zu,zu,zu,zu,zu,zu,zu,zu,zu,zu,zu,zu,zu,zu,zu,zu,zu,zu,zu,zu,zu,zu,zu,zu,zu,zu,zu,zu,zu,zu,zu,zu,zu,zu,zu,zu,zu,zu,zu,zu,zu,zu,zu,zu,zu,zu,zu,zu,zu,zu,zu,zu,zu,zu,zu,zu,zu,zu,zu,zu,zu,zu,zu,zu,zu,zu,zu,zu,zu,zu,zu,zu,zu,zu,zu,zu,zu,zu,zu,zu,zu,zu,zu]
def Jj(g b:i')(i h f d:Nat)(k c:Int)(s:ByteArray)(w:World):cu0.wp prog (fun e a j=>e=.normal/\a.defers=[]/\(∃l m,a.tmps=vK g b i h f d k c s l m/\j.heap[l]?=some (.cells #[.slice g i h,.slice b f d] 25)/\j.heap[m]?=some (.cells #[k,c] 27))/\QB w j) ⟨cuI g b i h f d k c s,[]⟩ w:=by simp only[cu0,cHd,cuBody,Tryz.f3,M0,cuI];go_wp2;exact⟨⟨_,_,rfl,Qs,Qs⟩,Qi⟩
def Jk(d a:i')(f b:Nat)(k o:Int)(s:ByteArray)(g i:Nat)(e:z1)(c:e6)(w:World)(r:BookAt w d f e a b c)(j:w.heap[g]?=some (.cells #[.slice d e.length f,.slice a c.length b] 25))(l:w.heap[i]?=some (.cells #[k,o] 27)):cuR.wp prog (bodyPost prog Tryz.f3 (Qt w true)) ⟨cuT d a e.length f c.length b k o s g i,[]⟩ w:=by
 by_cases hF:FewR e c
 .by_cases m:s.size<=20;·exact Jh d a e.length f c.length b k o s g i e c w r rfl rfl hF m j l
  .exact M8 d a e.length f c.length b k o s g i e c w r rfl rfl (fun h=>m h.2) j l
 .exact M8 d a e.length f c.length b k o s g i e c w r rfl rfl (fun h=>hF h.1) j l
def Jl(d a:i')(f b:Nat)(k C:Int)(s:ByteArray)(A:z1)(c:e6)(W:World)(B:hS)(D:BookN W d f A a b c)(v:GlobOk W)(y:Tabs (aK W))(E:∀w',Kept1 W w'->B (.bool true) w'):Fin prog B #[G (Frame.enter prog 3 #[.agg #[.slice d A.length f,.slice a c.length b],.agg #[k,C],.string s] .normal) []] W none #[]:=by
 refine Dc (F:=3) (fn:=Tryz.f3) (c0:=cu0) (x:=cuX) (rest:=cuR) (n:=1) (p:=16) (q:=17) (s:= "law.go:376")
  (T:=fun o w=>∃g i,o=vK d a A.length f c.length b k C s g i/\w.heap[g]?=some (.cells #[.slice d A.length f,.slice a c.length b] 25)/\w.heap[i]?=some (.cells #[k,C] 27)/\BookAt w d f A a b c) func3 Qb Qb Qb Qb Qb v y ?_ Qc ?_ ?_ ?_ ?_ E;·exact((AR.one D.agg).push (Zf ((AR.one (.int _ _)).push (.int _ _)))).push (.string _)
 .rintro o w w' ⟨g,i,e,j,l,r⟩ m;exact⟨g,i,e,m.at j,m.at l,r.old m⟩
 .rintro o w ⟨g,i,rfl,-⟩;exact⟨by simp[vK],by simp[vK]⟩
 .intro w m;have t:=D.clean.old m;rw[show (#[.agg #[.slice d A.length f,.slice a c.length b],.agg #[k,C],.string s]++Array.replicate (Tryz.f3.ntmps-(#[.agg #[.slice d A.length f,.slice a c.length b],.agg #[k,C],.string s]:bJ).size) undef:bJ)=cuI d a A.length f c.length b k C s from Qb];refine iZ (fun e z w' h=>⟨h.1,h.2.1,?_,h.2.2.2⟩) (Jj d a A.length f c.length b k C s w);obtain⟨g,i,u,j,l⟩:=h.2.2.1;exact⟨g,i,u,j,l,t.below h.2.2.2⟩
 .rintro o w ⟨g,i,rfl,j,l,r⟩;exact Jk d a f b k C s g i A c w r j l
end Go.Proofs
namespace Go.Proofs
open Go Go.RowKit Go.Twin Go.Conc Go.WideShapes Go.ChangeShapes
section
variable {H:Type} {enc:TypeId×Value->H}
def Jm{a:Assume} {C:Checked} {c:Os} {f:FuncId} {fn:Func} {s:ChangeSpec} {m:List PathCond} {b o h l:Bool} {X:World->Array Value->Prop} (M:∀(w w':World)(args:bJ),w.heap=w'.heap->X w args->X w' args)(own:ownKnob C.prog.godebug=none)(p:c.Started)(F:C.prog.funcs[f]?=some fn)(q:∃(w:World)(d:Tape)(i:Input),w.os=c/\(w.forCall d i).Shaped C.prog/\i.vars=[]/\Input.okWide C.prog (w.forCall d i) .any w.heap.size f i/\((s.pre enc C.prog fn m b (w.forCall d i).memory i.args/\X (w.forCall d i).memory i.args)/\sizedMet enc C.prog fn (OpenSpec.ofChange s) b (w.forCall d i).memory i.args)/\a.holds C.prog (lone (Frame.enter C.prog f i.args .normal) [] (w.forCall d i)))(k:∀(W:World)(base:Nat)(args:bJ)(B E:List (DataW H))(g:List MemPlace),(∀(j:Nat) t v,fn.params[j]?=some t->args[j]?=some v->Value.okWide C.prog W .any base t v)->DataW.Whole enc C.prog fn.params.toList s.vars b W args.toList B E g->X W args->W.ShapedOpen C.prog->Fin C.prog (fun v L=>s.post enc C.prog fn b o h l W.blind args v L.blind) #[G (Frame.enter C.prog f args .normal) []] W none #[]):ReturnsInLeavingWide a C c f .any (fun w args=>(s.pre enc C.prog fn m b w args/\X w args)/\sizedMet enc C.prog fn (OpenSpec.ofChange s) b w args) (s.post enc C.prog fn b o h l):=by refine returnsInLeavingWide_of_good own p q ?_;intro w d i _ J _ I u z;obtain⟨_,_,_,D,r,_,_,_,_,y⟩:=I;have e:D=fn:=R' (r.symm.trans F);subst e;obtain⟨⟨⟨B,E,g,N,P⟩,O⟩,Q⟩:=u;have K:=DataW.Whole.of_heap (w':=w.forCall d i) Qe N;exact k (w.forCall d i) w.heap.size i.args B E g y K (M _ _ _ Qe O) J
def Jn{P:aA} {f:Func} {s:ChangeSpec} {d e a b:Bool} {W i:World} {c:bJ} {v:Value} (l:Kept1 W i)(h:∀g:World,QB W g->s.post enc P f d e a b W c v g):s.post enc P f d e a b W.blind c v i.blind:=by have j:=h {i with tape:=W.tape} ⟨l.os,rfl,l.output,l.size,l.heap⟩;have k:=ChangeSpec.post_blind j;exact k
end
def Jo(g:Looks) {p:Pinned} {s:OpenSpec} {c:OpenClaim} (kinds:List LaidKind)(b:Bool)(a:Bool×String)(e:Bool)(m:c.holds p s)(w:c.wfByText s=true)(d:c.laidByTextAt g p kinds b)(n:c.start=.entering)(i:c.noBlocks=false/\c.again=false)(v:p.checked.prog.mainIs=some (a.1,a.2.toList))(u:(!a.1&&a.2.isEmpty&&!e)=false)(q:∀f fn,p.checked.prog.funcNamed c.func=some f->p.checked.prog.funcs[f]?=some fn->e=p.checked.prog.looks []/\∀(j:Nat) t,fn.params[j]?=some t->p.checked.prog.wantsStandIn t=false)(o:true=c.goesBy p.checked.prog):Claim7.holds p (.plain s) {stood:={row:=c,standIns:=[],harness:=a,looks:=e},kinds:=[],alts:=[],goes:=true,laidByText:=true,laidKinds:=kinds,laidTests:=b,laidLooks:=g}:=by
 have k:∀r:OpenClaim,Claim7.isSixth {stood:={row:=r,standIns:=[],harness:=a,looks:=e},kinds:=[]}=false:=fun r=>by simpa [Claim7.isSixth] using u
 refine⟨Claim7.tied_new_at g kinds b (Claim7.new_of_sixth m a e n i v (k c) q) w,fun D l=>(by cases l),d,(fun h=>by cases h),o⟩
end Go.Proofs
namespace Go.Proofs
open Go
def Jp{P:aA} {f:FuncId} {fn:Func} {s:ChangeSpec} {c:OpenClaim} (n:(c.wf (OpenSpec.ofChange s))=true)(F:(laidOutB P)=true)(G:(mapsRowed P)=true)(I:(fn.params.all (P.readableRec ·))=true)(w:(namedTie P c.named s.vars)=true)(x:((c.stops==[]))=true)(A:((P.stops==[]))=true)(J:((c.knobs==[]))=true)(K:((P.stopKnobs==[]))=true)(L:((c.inPlace==P.inPlace f))=true)(a:((c.unfollowed==P.unfollowed f))=true)(b:((c.recurses==P.recurses f))=true)(d:((c.named==P.varsNamed f))=true)(e:((c.maps==(fn.params.toList++s.plain.varTypes P).any (P.mapsRec ·)))=true)(g:((c.ifaces==(fn.params.toList++s.plain.varTypes P).any (P.ifacesRec ·)))=true)(h:((c.mapsOut==P.mapsAmong fn.resultTypes.toList))=true)(i:((c.loops==(fn.params.toList++s.plain.varTypes P).any (P.loopsFrom ·)))=true)(j:((c.wideKeys==(fn.params.toList++s.plain.varTypes P++fn.resultTypes.toList).any (P.wideKeysFrom ·)))=true)(l:(s.vars.all (P.varReadable ·))=true)(m:(fn.resultTypes.all (fun t=>P.readableRec t&&decide (t<P.types.size)))=true)(o:((c.ifacesOut==fn.resultTypes.toList.any (P.ifacesRec ·)))=true)(p:((c.loopsOut==fn.resultTypes.toList.any (P.loopsFrom ·)))=true)(q:((c.plainKeys==P.plainKeys))=true)(r:(c.shortTexts.isNone)=true)(u:(P.stopsHeard)=true)(v:(P.mayEnter)=true)(y:((c.lifted==P.liftsFinal))=true)(z:((P.make==some c.make))=true)(B:((c.kinds==(if c.domain.isEmpty then []else fn.params.toList.map fun t=>match P.underlying t with|some (.int k)=>some k|_=>none)))=true)(C:((c.pinned==c.pinnedBy))=true)(D:((c.veiled==(fn.params.toList++s.plain.varTypes P++fn.resultTypes.toList).any (P.veiledRec ·)))=true)(E:(c.veiledFits P fn.params.toList (fn.params.toList++s.plain.varTypes P++fn.resultTypes.toList))=true):joinedFacts P f fn s c=true:=by unfold joinedFacts;simp only[aY];exact⟨⟨⟨⟨⟨⟨⟨⟨⟨⟨⟨⟨⟨⟨⟨⟨⟨⟨⟨⟨⟨⟨⟨⟨⟨⟨⟨⟨⟨⟨⟨n,F⟩,G⟩,I⟩,w⟩,x⟩,A⟩,J⟩,K⟩,L⟩,a⟩,b⟩,d⟩,e⟩,g⟩,h⟩,i⟩,j⟩,l⟩,m⟩,o⟩,p⟩,q⟩,r⟩,u⟩,v⟩,y⟩,z⟩,B⟩,C⟩,D⟩,E⟩
def pf1:(laidOutB YthmhdmfahlkpmaaGreatDoor.Tryz.pinned.checked.prog)=true:=Qb
def pf2:(mapsRowed YthmhdmfahlkpmaaGreatDoor.Tryz.pinned.checked.prog)=true:=Qb
def Jq:(YthmhdmfahlkpmaaGreatDoor.Tryz.pinned.checked.prog.stopsHeard)=true:=Qb
def Jr:(YthmhdmfahlkpmaaGreatDoor.Tryz.pinned.checked.prog.mayEnter)=true:=Qb
def Js:(false==YthmhdmfahlkpmaaGreatDoor.Tryz.pinned.checked.prog.liftsFinal)=true:=Qb
end Go.Proofs
