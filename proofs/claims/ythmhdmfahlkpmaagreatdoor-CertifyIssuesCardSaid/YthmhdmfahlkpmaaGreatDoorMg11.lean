import Derived.Test.YthmhdmfahlkpmaaGreatDoorMg10
set_option linter.all false
set_option maxRecDepth 100000
set_option maxHeartbeats 16000000
namespace Go
def FW:=@List.getElem?_append
def FX:=@Array.toList_setIfInBounds
def MA:=@List.reverse_reverse
def FY:=@Int.eq_of_mul_eq_mul_right
def MC:=@Int.mul_ediv_mul_of_pos_left
def L1:=@Nat.gcd_zero_left
end Go
namespace Go.Proofs
open Tryz
open Go.RowKit
variable {w:World} {base g n c:Nat} {v:Value} {ys:List IR} {A:i'}
def Gs{e:aN} {b:Nat} {d:hD} (h:w.ownsRow base e b (.slice (some g) n c) n d):w.ownsRow g e b (.slice (some g) n c) n d:=by
 refine⟨h.1,?_⟩;rcases h.2 with⟨h,-⟩|⟨s,i,a,j,u,r⟩;·cases h
 .cases j;exact .inr ⟨_,_,a,rfl,sW _,r⟩
structure LoRow (w:World)(base:Nat)(v:Value)(y:IR)(g:Nat):Prop where
 A:y.A=some ⟨g,0,none⟩
 ge:base<=g
 lt:g<w.heap.size
 ne:some g≠v.ownBlock
 own:w.ownsRow g 3 1 (.slice (some ⟨g,0,none⟩) y.l.length y.c) y.l.length (y.l.map (Value.int .i64))
structure LO (w:World)(base:Nat)(v:Value)(ys:List IR):Prop where
 own:w.ownsRow base 30 1 v ys.length (ys.map fun x=>.slice x.A x.l.length x.c)
 row:∀i y,ys[i]?=some y->∃g,LoRow w base v y g/\∀(j:Nat)(z:IR),j<i->ys[j]?=some z->z.A≠some ⟨g,0,none⟩
def LO.nil(w:World)(base:Nat):LO w base (.slice none 0 0) []:=⟨gE _ _ _ _,fun i y h=>by simp at h⟩
def LO.below{w':World} (h:LO w base v ys)(hb:QB w w'):LO w' base v ys:=⟨ZI h.own hb,fun i y j=>by obtain⟨g,a,e⟩:=h.row i y j;exact⟨g,⟨a.A,a.ge,h8 a.lt hb.size,a.ne,ZI a.own hb⟩,e⟩⟩
def LO.push{B K:World} (h:LO w base v ys)(I:QB w B) {y:IR} {a:Nat} (W:y.A=some ⟨a,0,none⟩)(Y:base<=w.heap.size)(X:w.heap.size<=a)(C:a<B.heap.size)(S:B.ownsRow a 3 1 (.slice (some a) y.l.length y.c) y.l.length (y.l.map (Value.int .i64)))(L:B.grownBy K v.ownBlock) {cap:Nat} (R:K.ownsRow base 30 1 (.slice (some g) (ys.length+1) cap) (ys.length+1) ((ys.map fun x=>Value.slice x.A x.l.length x.c)++[.slice y.A y.l.length y.c])) (T:v.ownBlock=some g∨g=B.heap.size):LO K base (.slice (some g) (ys.length+1) cap) (ys++[y]):=by
 have D:∀r,v.ownBlock=some r->r<w.heap.size:=fun r e=>(h.own.lt r e).2;have H:∀k,k<B.heap.size->some k≠v.ownBlock->some k≠(Value.slice (some g) (ys.length+1) cap).ownBlock:=fun k V Q e=>by
  rcases T with h|h;·exact Q (e.trans h.symm)
  .have N:k=g:=R' e;omega
 have u:∀k n c xs,k<B.heap.size->some k≠v.ownBlock->B.ownsRow k 3 1 (.slice (some k) n c) n xs->K.ownsRow k 3 1 (.slice (some k) n c) n xs:=fun k n c xs V d R=>Z1 R fun r e=>by cases e;exact L.block k V d
 refine⟨by rw[hK,x0];exact R,fun i z F=>?_⟩;rw[FW]at F;split at F;·rename_i Z;obtain⟨U,s,f⟩:=h.row i z F;have E:=h8 s.lt I.size;refine⟨U,⟨s.A,s.ge,h8 E L.size,H U E s.ne,u _ _ _ _ E s.ne (ZI s.own I)⟩,fun j x O J=>?_⟩;rw[aW Qa]at J;exact f j x O J
 .rename_i Z;have M:i=ys.length:=by have:=(p1.1 F).1;simp at this;omega
  subst M;rw[kW]at F;cases F;have G:some a≠v.ownBlock:=fun e=>by have:=D a e.symm;omega
  refine⟨a,⟨W,Qa,h8 C L.size,H a C G,u _ _ _ _ C G S⟩,fun j x O J=>?_⟩;rw[aW O]at J;obtain⟨gj,s,-⟩:=h.row j x J;rw[s.A];intro e;cases e;have:=s.lt;omega
def LO.rowsAt(h:LO w base (.slice A n c) ys):cI w A ys:=by
 refine⟨fun k x r=>?_,fun x r=>?_⟩;·have s:=h.own;obtain⟨H,I,e⟩:=Z3 s;cases e;obtain⟨g,F,-,C,E⟩:=X5 s (k:=k) (u:=.slice x.A x.l.length x.c) (by rw[C2,r];rfl);refine⟨g,0,F,C,fun j v a=>?_⟩;cases j with
  |zero=>simp[IR.cs]at a;subst a;simpa using E|succ j=>simp[IR.cs]at a
 .obtain⟨i,G⟩:=r2.1 r;obtain⟨g,B,-⟩:=h.row i x G;rw[B.A];exact e7 B.own
def LO.sq(h:LO w base (.slice A n c) ys)(s:ys.length=n)(e:∀y∈ys,y.l.length=n/\ZK 20 y.l):SqAt w A n ys:=⟨h.rowsAt,s,fun y a=>by obtain⟨i,r⟩:=r2.1 a;obtain⟨g,j,-⟩:=h.row i y r;have:=sU j.own;rw[(e y a).1]at this;exact⟨(e y a).1,this,(e y a).2⟩⟩
def Gt(A:i')(d:List IR)(c n:Nat)(w:World)(D:cI w A d)(P:d.length=n)(aG:n<=100)(hr:∀x∈d,1<=x.l.length/\x.l.length<=100):Calls prog 90 #[.slice A n c] w fun e w'=>(∃p c2 ys,e=.returned (.slice p n c2)/\LO w' w.heap.size (.slice p n c2) ys/\ys.map IR.l=d.map IR.l)/\QB w w':=by
 have J:=w0 D;have F:=w0 P;have X:=w0 hr;obtain⟨i1,hj,S,T,U⟩:=n9 info31;clear D P hr;go_enter func90,ntmps90;go_wp2;go_loopw [3,4] (fun v3 i wr=>∃(k:Nat)(ys:List IR),k<=n/\i=.int .i64 k/\Hid (LO wr w.heap.size v3 ys/\ys.map IR.l=(d.map IR.l).take k)/\QB w wr)(fun _ i _=>n-(intOf i).toNat);case atStart=>exact⟨0,[],k2 _,rfl,w0 ⟨LO.nil _ _,Qd⟩,l3 _ _⟩
 case round=>
  obtain⟨k,ys,hk,rfl,r,h⟩:=hrel;have a:ys.length=k:=by have h1:=w6 List.length r.out.2;rw[sA,Q3,sA,F.out]at h1;omega
  obtain⟨A6,c6,rfl⟩:=Z3 r.out.1.own;rw[a];by_cases V:k<n
  .have aE:(k:Int)<(n:Int):=Qa
   obtain⟨x,Z⟩:∃x,d[k]?=some x:=⟨_,h' (by rw[F.out];exact V)⟩;have L:=k3 Z;obtain⟨b,o,rfl,hb,N⟩:=(J.out.below h).1 k x Z;have c1:=N 0 _ rfl;simp only[w8,w7]at c1;obtain⟨r1,r2⟩:=X.out x L;have O:=w0 (lG x.A x.l x.c x.l.length wr ((J.out.below h).2 x L) rfl Qa);have Y:=w0 (show (d.map IR.l).take (k+1)=(d.map IR.l).take k++[x.l]by rw[w9,C2,Z];rfl);clear N;go_wp2_with (first|(go_at_call 26;refine O.out.mono ?_;rintro e f ⟨⟨A9,G,rfl,M⟩,s⟩;rw[pR]at M;obtain⟨H,cc,e9,R,aF⟩:=M.form Qa;cases e9;have Q:=w0 M;have C:=w0 (r.out.1.below s);have aA:=h.size;have aB:=s.size;clear M)|(at_builtin;refine r9 _ rfl _ _ 111 rfl w.heap.size 30 i1 (.slice none 0 0) 1 24 underlying111 hj S T U rfl Qc _ k _ rfl (by have:=(C.out.below (ZC f (.cells #[.slice (some H) x.l.length G] 30))).own;rw[a]at this;exact this) ⟨f.heap.size,0,none⟩ 1 1 [.slice (some H) x.l.length G] rfl rfl ?c1 ?c2 Qc ?c3 ?c4 ?c5 (f.heap.size+1) ?c6 ?_));case c1=>exact D7 _ [.slice (some H) x.l.length G] _ Qd
   case c2=>intro u hu;simp at hu;subst hu;rfl
   case c3=>unfold maxLen;omega
   case c4=>omega
   case c5=>simp;omega
   case c6=>simp
   intro g aD w4 j E B aC;have K:QB w w4:=ZS (via (via h s) (ZC _ _)) E fun b e=>by have:=(C.out.own.lt b (by rw[a];exact e)).1;omega
   have t:=w0 (LO.push (y:=⟨some ⟨H,0,none⟩,G,x.l⟩) r.out.1 (via s (ZC f _)) rfl Qa R Qk (Gs (ZI Q.out (ZC _ _))) (by rw[a];exact E) (by rw[a];exact j) (by rw[a];simpa using B));rw[a]at t;have W:=w0 (show (ys++[(⟨some ⟨H,0,none⟩,G,x.l⟩:IR)]).map IR.l=(d.map IR.l).take (k+1)by rw[x0,r.out.2,Y.out];rfl);clear j E B r C;go_wp2;go_roundw;case rel=>exact⟨k+1,_,Qa,Qj,⟨t.out,W.out⟩,K⟩
   case measure=>exact Qv
  .obtain rfl:n=k:=Qa
   have W:=w0 (show ys.map IR.l=d.map IR.l by rw[r.out.2,e0 (by rw[sA,F.out];omega)]);have I:=w0 r.out.1;rw[a]at I;clear r;go_wp2;go_ret;exact⟨⟨_,_,ys,rfl,I.out,W.out⟩,h⟩
end Go.Proofs
namespace Go.Proofs
open Go.RowKit
variable {m:List (List Int)} {right:L'} {k q base g:Nat} {w:World} {v:Value} {y:IR}
def fO(m:List (List Int))(right:L')(k q:Nat):List (List Int):=(List.range m.length).map fun i=>if i<q then (m.getD i []).set k (right.getD i 0)else m.getD i []
def B6(m:List (List Int))(right:L')(k:Nat):List (List Int):=fO m right k m.length
def lT(n:Nat)(m:List (List Int))(right:L')(k:Nat):Int:=if detN n m<0 then -detN n (B6 m right k)else detN n (B6 m right k)
def x6(n:Nat)(m:List (List Int))(right:L'):Option (List Int×Int):=if detN n m=0 then none else some ((List.range n).map (lT n m right),((detN n m).natAbs:Int))
def Gu(m:List (List Int))(right:L')(k:Nat):fO m right k 0=m:=by
 apply aX;intro i;unfold fO;rw[C2];by_cases a:i<m.length;·rw[dF a,h' a];simp[D1,h' a]
 .rw[cN Qk,cN Qa];rfl
def W7(m:List (List Int))(right:L')(k q:Nat):(fO m right k q).length=m.length:=by simp[fO]
def BV{i:Nat} (b:i<m.length):(fO m right k q)[i]?=some (if i<q then (m.getD i []).set k (right.getD i 0)else m.getD i []):=by unfold fO;rw[C2,dF b];rfl
def Gv(hq:q<m.length):(fO m right k q).set q ((m.getD q []).set k (right.getD q 0))=fO m right k (q+1):=by
 apply aX;intro i;rw[dC,W7];by_cases a:i<m.length
 .rw[BV a,BV a];by_cases e:q=i;·subst e;rw[Zde rfl,Zde hq,Zde Qa]
  .rw[q' e];by_cases h:i<q;·rw[Zde h,Zde Qa]
   .rw[q' h,q' Qa]
 .rw[q' Qa,cN (by rw[W7];omega),cN (by rw[W7];omega)]
def Gw{n:Nat} (b:∀row∈m,row.length=n/\ZK 20 row)(B:ZK 20 right):∀row∈fO m right k q,row.length=n/\ZK 20 row:=fun row h=>by
 obtain⟨i,e⟩:=r2.1 h;have a:=(p1.1 e).1;rw[W7]at a;rw[BV a]at e;have j:m.getD i []∈m:=by rw[D1,h' a];exact D2 _
 obtain⟨s,u⟩:=b _ j;cases e;split
 .refine⟨by rw[gL];exact s,fun x r=>?_⟩;rcases kK r with r|rfl;·exact u x r
  .exact B.get i
 .exact⟨s,u⟩
def LoRow.block(h:LoRow w base v y g)(hp:0<y.l.length):∃a,w.heap[g]?=some (.cells a 3)/\a.toList.take y.l.length=y.l.map (Value.int .i64)/\y.l.length<=a.size/\∃s,y.c=s/\y.l.length<=y.c/\y.c<=maxLen/\a.size=y.c:=by
 rcases h.own.2 with⟨e,-⟩|⟨E,r,a,e,-,u,B,C,i,j⟩;·cases e
 .cases e;simp only[w8]at i j;exact⟨a,u,j,Qa,_,rfl,B,C,i⟩
def LO.set{w':World} {E:List IR} (h:LO w base v E) {z:Int} {d:bJ} (hq:E[q]?=some y)(G:LoRow w base v y g)(hs:∀(j:Nat)(x:IR),j<q->E[j]?=some x->x.A≠some ⟨g,0,none⟩)(hk:k<y.l.length)(hb:w.heap[g]?=some (.cells d 3))(B:∀j,j<w.heap.size->j≠g->w'.heap[j]?=w.heap[j]?)(O:w.heap.size<=w'.heap.size)(L:w'.heap[g]?=some (.cells (d.setIfInBounds k (.int .i64 z)) 3)):LO w' base v (E.set q ⟨y.A,y.c,y.l.set k z⟩):=by
 have F:=(p1.1 hq).1;refine⟨?_,fun i x I=>?_⟩
 .have e:(E.set q ⟨y.A,y.c,y.l.set k z⟩).map (fun x=>Value.slice x.A x.l.length x.c)=E.map fun x=>Value.slice x.A x.l.length x.c:=by
   apply aX;intro i;rw[C2,C2,dC];by_cases e:q=i;·subst e;rw[Zde rfl,Zde F,hq];simp
   .rw[q' e]
  rw[gL,e];exact Z1 h.own fun r Q=>B r (h.own.lt r Q).2 fun e=>G.ne (by rw[<-e];exact Q.symm)
 .rw[dC]at I;have U:∀(j:Nat)(C:IR),(E.set q ⟨y.A,y.c,y.l.set k z⟩)[j]?=some C->∃J,E[j]?=some J/\J.A=C.A:=fun j C u=>by
   rw[dC]at u;by_cases e:q=j;·subst e;rw[Zde rfl,Zde F]at u;cases u;exact⟨y,hq,rfl⟩
   .rw[q' e]at u;exact⟨C,u,rfl⟩
  by_cases e:q=i
  .subst e;rw[Zde rfl,Zde F]at I;cases I;refine⟨g,⟨G.A,G.ge,h8 G.lt O,G.ne,?_⟩,fun j C u H=>?_⟩;·obtain⟨T,s,K,Z,Y,N,V,W,X⟩:=G.block Qa;rw[hb]at s;cases s;refine⟨Qd,.inr ⟨g,y.c,_,Qd,sW _,L,by simpa using V,W,by simp[X],?_⟩⟩;simp only[w8,gL,FX];rw[oQ,K,kT]
   .obtain⟨J,s,K⟩:=U j C H;rw[<-K];exact hs j J u s
  .rw[q' e]at I;obtain⟨R,a,M⟩:=h.row i x I;have S:R≠g:=by
    rintro rfl;rcases Nat.lt_or_gt_of_ne e with s|s;·exact M q y s hq G.A
    .exact hs i x s I a.A
   refine⟨R,⟨a.A,a.ge,h8 a.lt O,a.ne,Z1 a.own fun r Q=>by cases Q;exact B R a.lt S⟩,fun j C u H=>?_⟩;obtain⟨J,s,K⟩:=U j C H;rw[<-K];exact M j J u s
end Go.Proofs
namespace Go.Proofs
open Tryz
open Go.RowKit
def GX(q:Option (List Int×Int))(n a:Nat)(e:Ending)(w':World):Prop:=match q with|none=>e=.returned (.tuple #[.slice none 0 0,(0:Int),false])|some (l,den)=>∃A c,e=.returned (.tuple #[.slice A n c,den,true])/\w'.ownsRow a 3 1 (.slice A n c) n (l.map (Value.int .i64))
def Gx(A rA:i')(xs:List IR)(right:L')(c rc n:Nat)(w:World)(aN:1<=n)(B:n<=5)(hS:SqAt w A n xs)(hR:At 1 Zc w rA right)(bD:right.length=n)(aF:ZK 20 right):Calls prog 61 #[.slice A n c,.slice rA n rc] w fun e w'=>GX (x6 n (xs.map IR.l) right) n w.heap.size e w'/\QB w w':=by
 obtain⟨i0,hi,bH,bI,Z⟩:=n9 info3;obtain⟨m,P⟩:=Qu (xs.map IR.l);have aX:m.length=n:=by rw[<-P,sA,hS.len]
 have aM:=w0 (show ∀row∈m,row.length=n/\ZK 20 row by intro row hr;rw[<-P]at hr;obtain⟨x,p,rfl⟩:=b3.1 hr;exact⟨(hS.row x p).1,(hS.row x p).2.2⟩);have aI:=w0 fun W (hb:QB w W)=>(by have h:=L9 n B A xs c W (hS.below hb);rw[P]at h;exact h);have bJ:=w0 fun W (hb:QB w W)=>(by have h:=Gt A xs c n W (hS.below hb).at_ hS.len Qa (fun x p=>by rw[(hS.row x p).1];omega);rw[P]at h;exact h);obtain⟨f,aC⟩:=Qu (detN n m);have aW:=a8 n m B fun row hr=>(aM.out row hr).2;have cC:bdN n<=384000000:=by
  have:∀n,n<=5->bdN n<=384000000:=Qc
  exact this n B
 rw[aC]at aI aW;have H:=w0 (show ∀e w',GX (x6 n m right) n w.heap.size e w'=GX (if f=0 then none else some ((List.range n).map (lT n m right),(f.natAbs:Int))) n w.heap.size e w' from fun e w'=>by unfold x6;rw[aC]);rw[P];have bC:=w0 fun W (hb:QB w W) i (hi:i<n)=>D9 (hR.below hb) (k:=i) (by rw[bD];exact hi);have bV:=w0 fun k=>(by unfold lT;rw[aC]:lT n m right k=if f<0 then -detN n (B6 m right k)else detN n (B6 m right k));have s:=w0 aX;have aO:=w0 aF;have bZ:=w0 aN;have aY:=w0 B;clear hS P hR bD aF aC aX;by_cases Y:f=0
 .have T:=w0 (show ∀e w',e=.returned (.tuple #[.slice none 0 0,(0:Int),false])->GX (x6 n m right) n w.heap.size e w' from fun e w' h=>by rw[H.out,Zde Y];exact h);have bN:(f==0)=true:=by simp[Y]
  clear H aN B;go_enter func61,ntmps61;go_wp2_with (go_at_call 89;refine(aI.out _ Qi).mono ?_;rintro e w2 ⟨rfl,E⟩);go_ret3;exact⟨T.out _ _ rfl,E⟩
 have bN:(f==0)=false:=by simpa using Y
 have T:=w0 (show ∀e w',(∃A c,e=.returned (.tuple #[.slice A n c,(f.natAbs:Int),true])/\w'.ownsRow w.heap.size 3 1 (.slice A n c) n (((List.range n).map (lT n m right)).map (Value.int .i64)))->GX (x6 n m right) n w.heap.size e w' from fun e w' h=>by rw[H.out,q' Y];exact h);have bM:=w0 fun x=>FC f x Qa;clear H aN B;go_enter func61,ntmps61;go_wp2_with (go_at_call 89;refine(aI.out _ Qi).mono ?_;rintro e w2 ⟨rfl,E⟩);go_loopw [8,9] (fun v8 i wr=>∃k:Nat,k<=n/\i=.int .i64 k/\Hid (wr.ownsRow w.heap.size 3 1 v8 k (((List.range k).map (lT n m right)).map (Value.int .i64)))/\QB w wr)(fun _ i _=>n-(intOf i).toNat);case atStart=>exact⟨0,k2 _,rfl,w0 (by simp only[List.range_zero,N1];exact gE _ _ _ _),E⟩
 case round=>
  clear E;obtain⟨N,bF⟩:∃N,N=wr:=⟨_,rfl⟩;subst bF;obtain⟨k,hk,rfl,hO,J⟩:=hrel;obtain⟨A8,c8,rfl⟩:=Z3 hO.out;by_cases cF:k<n
  .have bT:(k:Int)<(n:Int):=Qa
   have B:=aY.out;go_wp2_with (go_at_call 90;refine(bJ.out _ J).mono ?_;rintro e w3 ⟨⟨A9,c9,ys,rfl,aR,aE⟩,aT⟩);have aD:=w0 aR;have V:=w0 aE;clear aR aE;go_loopw [11] (fun j wi=>∃(q:Nat)(d:List IR),q<=n/\j=.int .i64 q/\Hid (LO wi N.heap.size (.slice A9 n c9) d/\d.map IR.l=fO m right k q)/\QB N wi)(fun j _=>n-(intOf j).toNat);case atStart=>exact⟨0,ys,k2 _,rfl,w0 ⟨aD.out,by rw[V.out,Gu]⟩,aT⟩
   case round=>
    clear aD V aT;obtain⟨q,d,hq,rfl,M,aB⟩:=hrel;have R:=via J aB;by_cases K:q<n
    .have bU:(q:Int)<(n:Int):=Qa
     have aA:d.length=n:=by have L:=w6 List.length M.out.2;rw[sA,W7,s.out]at L;exact L
     obtain⟨y,hy⟩:∃y,d[q]?=some y:=⟨_,h' (by rw[aA];exact K)⟩;obtain⟨g,t,aG⟩:=M.out.1.row q y hy;have aQ:y.l=m.getD q []:=by have L:=BV (m:=m) (right:=right) (k:=k) (q:=q) (i:=q) (by rw[s.out];exact K);rw[<-M.out.2,C2,hy,q' Qa]at L;exact R' L
     have bG:y.l.length=n:=by rw[aQ];refine(aM.out _ ?_).1;rw[D1,h' (by rw[s.out];exact K)];exact D2 _
     obtain⟨O,aL,bQ,cD,-⟩:=t.block Qa;obtain⟨b,o,bO,aV,aU⟩:=M.out.1.rowsAt.1 q y hy;cases bO;have c1:=aU 0 _ rfl;simp only[w8,w7]at c1;rw[t.A,bG]at c1;obtain⟨b2,o2,rfl,E,c2⟩:=bC.out wr R q K;obtain⟨z,Y⟩:=Qu (right.getD q 0);rw[Y]at c2;have bS:=t.lt;have bR:=t.ge;have bF:=J.size;have aZ:b2≠g:=by obtain⟨cA,cH,e2,bW,-⟩:=bC.out N J q K;cases e2;omega
     have bA:b≠g:=fun e=>t.ne (by rw[<-e];rfl);have aH:=w0 fun(w':World) L h2 h3=>(⟨LO.set (w':=w') (z:=z) M.out.1 hy t aG (show k<y.l.length by omega) aL L h2 h3,by rw[<-Gv (by rw[s.out];exact K),<-M.out.2,kT,aQ,Y]⟩:LO w' N.heap.size (.slice (some ⟨b,o,none⟩) n c9) (d.set q ⟨y.A,y.c,y.l.set k z⟩)/\(d.set q ⟨y.A,y.c,y.l.set k z⟩).map IR.l=fO m right k (q+1));have S:=w0 (show ∀x:World,x.heap[g]?=some (.cells O 3)->(∃u,x.cell? ⟨g,k,none⟩=some u)/\x.frozen? ⟨g,k,none⟩=false from fun x p=>⟨⟨O[k]'Qa,by simp only[World.cell?,p];simp[e3 (show k<O.size by omega)]⟩,by unfold World.frozen?;simp only[p];simp⟩);clear M aU t aG aQ bG bQ Y aA;go_wp2;refine p5 Qb ?_;apply sH N 10 g (.cells O 3) (.cells (O.setIfInBounds k (.int .i64 z)) 3);case hB=>kernel_rfl
     case hB'|hS|hN|hkd=>kernel_rfl
     case hw=>exact aB
     case hb=>exact bR
     case h4=>exact aL
     case hq=>
      intro u C cE;have e1:=(Q0 (a:=⟨b,o+q,none⟩) (C.2.2 b aV bA)).trans c1;have e2:=(Q0 (a:=⟨b2,o2+q,none⟩) (C.2.2 b2 E aZ)).trans c2;have z1:=h8 aV C.2.1;have z2:=h8 E C.2.1;have z3:=h8 bS C.2.1;simp only[mixL,yieldsC,l5,n7,Nat.reduceAdd,Nat.reduceBEq,m',o7,sS,p',k7,nK,ZyJ,ZyI,r5,Nat.reduceEqDiff];repeat (go_big_quiet_step (fail))
      exact ZyG rfl
     case hs4=>intro o ho x p Y;simp only[p0,B4,M3]at ho;subst ho;obtain⟨⟨u,C⟩,hf⟩:=S.out x Y;exact⟨_,oX (n:=z) rfl Qb Qb Qb C hf,(OnlyB.refl _ _).set _ _,ZH Y _ rfl⟩
     intro u C Z;have bL:=w0 (aH.out u (fun j L h2=>C.2.2 j L h2) C.2.1 Z);have bP:=C.1;clear aH S C Z aL c1 c2;go_wp2;go_roundw;case rel=>exact⟨q+1,_,Qa,Qj,bL.out,bP⟩
     case measure=>exact Qv
    .obtain rfl:n=q:=Qa
     have bU:¬(n:Int)<(n:Int):=Qa
     have G:=w0 (Gw (k:=k) (q:=n) aM.out aO.out);have aA:d.length=n:=by have L:=w6 List.length M.out.2;rw[sA,W7,s.out]at L;exact L
     have aS:SqAt wr A9 n d:=M.out.1.sq aA fun y hy=>G.out _ (by rw[<-M.out.2];exact b3.2 ⟨y,hy,rfl⟩);have aP:fO m right k n=B6 m right k:=by unfold B6;rw[s.out]
     have aJ:=w0 (by have h:=L9 n B A9 d c9 wr aS;rw[M.out.2,aP]at h;exact h);have bK:=a8 n (B6 m right k) B (fun row hr=>(G.out row (by rw[aP];exact hr)).2);obtain⟨D,hD⟩:=Qu (detN n (B6 m right k));rw[hD]at aJ bK;have X:=w0 (bV.out k);rw[hD]at X;have cG:IntKind.i64.wrap (-D)=-D:=B3 _ Qa;have bE:=w0 (show ((List.range (k+1)).map (lT n m right)).map (Value.int .i64)=((List.range k).map (lT n m right)).map (Value.int .i64)++[.int .i64 (lT n m right k)]by rw[cO];simp);have I:=w0 (ZI hO.out aB);have bX:=aB.size;have bY:=J.size;clear M G aS aP hD aA;by_cases bB:f<0
     .go_wp2_with (first|(go_at_call 89;refine aJ.out.mono ?_;rintro e w4 ⟨rfl,F⟩)|(at_builtin;refine X0 _ rfl _ _ 30 rfl w.heap.size 3 i0 (.int .i64 0) 1 8 underlying30 hi bH bI Z rfl Qc _ k _ rfl ((ZI I.out F).alloc _) ⟨w4.heap.size,0,none⟩ 1 1 [.int .i64 (-D)] rfl rfl ?c1 ?c2 ?c3 ?c4 ?c5 ?_));case c1=>exact D7 _ [.int .i64 (-D)] _ Qd
      case c2=>intro u C;simp at C;subst C;rfl
      case c3=>unfold maxLen;omega
      case c4=>omega
      case c5=>have:=F.size;simp;omega
      intro v' w5 r U _;have Q:QB w w5:=ZS (via (via R F) (ZC _ _)) U fun b e=>(I.out.lt b e).1;have aK:=w0 (show w5.ownsRow w.heap.size 3 1 v' (k+1) (((List.range (k+1)).map (lT n m right)).map (Value.int .i64))by rw[bE.out,X.out,Zde bB,dZ];exact r);clear r U I hO;go_wp2;go_roundw;case rel=>exact⟨k+1,Qa,Qj,aK.out,Q⟩
      case measure=>exact Qv
     .go_wp2_with (first|(go_at_call 89;refine aJ.out.mono ?_;rintro e w4 ⟨rfl,F⟩)|(at_builtin;refine X0 _ rfl _ _ 30 rfl w.heap.size 3 i0 (.int .i64 0) 1 8 underlying30 hi bH bI Z rfl Qc _ k _ rfl ((ZI I.out F).alloc _) ⟨w4.heap.size,0,none⟩ 1 1 [.int .i64 (D)] rfl rfl ?c1 ?c2 ?c3 ?c4 ?c5 ?_));case c1=>exact D7 _ [.int .i64 (D)] _ Qd
      case c2=>intro u C;simp at C;subst C;rfl
      case c3=>unfold maxLen;omega
      case c4=>omega
      case c5=>have:=F.size;simp;omega
      intro v' w5 r U _;have Q:QB w w5:=ZS (via (via R F) (ZC _ _)) U fun b e=>(I.out.lt b e).1;have aK:=w0 (show w5.ownsRow w.heap.size 3 1 v' (k+1) (((List.range (k+1)).map (lT n m right)).map (Value.int .i64))by rw[bE.out,X.out,q' Qa,dZ];exact r);clear r U I hO;go_wp2;go_roundw;case rel=>exact⟨k+1,Qa,Qj,aK.out,Q⟩
      case measure=>exact Qv
  .obtain rfl:n=k:=Qa
   have bT:¬(n:Int)<(n:Int):=Qa
   go_wp2_with (go_at_call 68;refine(bM.out _).mono ?_;rintro e w3 ⟨rfl,rfl⟩);go_ret3;exact⟨T.out _ _ ⟨_,_,rfl,hO.out⟩,J⟩
end Go.Proofs
namespace Go.Proofs
open Go.RowKit
variable {below N q base g:Nat} {α:Type} {w:World} {xs:List IR}
def B7(below N q:Nat):List Nat:=(List.range q).filter fun k=>(N>>>(below-1-k))%2=1
def RR(below a N:Nat):List (List Nat):=((List.range N).map fun n=>B7 below n below).filter fun l=>l.length=a
def Gy:∀s∈List.range 256,∀c∈List.range 8,(s:Int) / 2^c=((s>>>c:Nat):Int):=Qm
def Gz:∀s∈List.range 256,bits .and .i64 (s:Int) 1=((s%2:Nat):Int):=Qm
def Ha:∀below∈List.range 9,∀a∈List.range 10,(RR below a (2^below)).reverse=cmb 0 below a:=Qm
def Hb(below a N:Nat):RR below a (N+1)=RR below a N++if (B7 below N below).length=a then [B7 below N below]else []:=by unfold RR;rw[cO,x0,F4];congr 1;simp only[M1,N1,cJ,List.filter_nil,h6]
def Hc(below a N:Nat):(RR below a N).length<=N:=by unfold RR;refine h9 (jU _ _) ?_;simp
def Hd(below N q:Nat):(B7 below N q).length<=q:=by unfold B7;refine h9 (jU _ _) ?_;simp
def He(h:(N>>>(below-1-q))%2=1):B7 below N (q+1)=B7 below N q++[q]:=by unfold B7;rw[cO,F4];congr 1;rw[cJ,Zde (by rw[h6];exact h)];rfl
def Hf(h:(N>>>(below-1-q))%2=0):B7 below N (q+1)=B7 below N q:=by unfold B7;rw[cO,F4,cJ,q' (by rw[h6];omega)];simp
def fJ{α:Type} (xs:List α)(q:Nat):List α:=(List.range xs.length).filterMap fun i=>if i<q∨xs.length-q<=i then xs[xs.length-1-i]? else xs[i]?
def yM{α β:Type} (f:α->Option β):∀(l:List α),(∀x∈l,(f x).isSome)->∀i:Nat,(l.filterMap f)[i]?=(l[i]?).bind f|[],_,i=>by simp|x::l,h,i=>by obtain⟨y,a⟩:=Option.isSome_iff_exists.1 (h x Qd);rw[List.filterMap_cons,a];cases i with|zero=>simp[a]|succ i=>simp only[p0];exact yM f l (fun z e=>h z (by simp[e])) i
def yN(xs:List α)(q:Nat):∀i∈List.range xs.length,(if i<q∨xs.length-q<=i then xs[xs.length-1-i]? else xs[i]?).isSome:=fun i a=>by
 have a:=w5.1 a;split;·rw[h' Qa];rfl
 .rw[h' a];rfl
def l9(xs:List α)(q:Nat) {i:Nat} (b:i<xs.length):(fJ xs q)[i]?=if i<q∨xs.length-q<=i then xs[xs.length-1-i]? else xs[i]?:=by unfold fJ;rw[yM _ _ (yN xs q),dF b];rfl
def nN(xs:List α)(q:Nat):(fJ xs q).length=xs.length:=by
 have a:∀i,(fJ xs q)[i]?=none↔xs.length<=i:=fun i=>by
  unfold fJ;rw[yM _ _ (yN xs q)];by_cases e:i<xs.length
  .rw[dF e];have:=yN xs q i (w5.2 e);rw[Option.isSome_iff_ne_none]at this;simp only[B5];constructor;·exact fun h=>absurd h this
   .intro h;omega
  .rw[cN Qk];simp;omega
 have r:=(a (fJ xs q).length).1 (cN (sW _));have j:=(a xs.length).2 (sW _);have s:=iL.1 j;omega
def Hg(xs:List α):fJ xs 0=xs:=by
 apply aX;intro i;by_cases a:i<xs.length;·rw[l9 xs 0 a,q' Qa]
 .rw[cN (by rw[nN];omega),cN Qa]
def Hh(xs:List α):fJ xs (xs.length / 2)=xs.reverse:=by
 apply aX;intro i;by_cases a:i<xs.length
 .rw[l9 xs _ a,List.getElem?_reverse a];split;·rfl
  .rename_i h;rw[show xs.length-1-i=i by omega]
 .rw[cN (by rw[nN];omega),cN Qk]
def Hi(xs:List α)(q:Nat) {x:α} (h:x∈fJ xs q):x∈xs:=by obtain⟨i,e⟩:=r2.1 h;have a:=(p1.1 e).1;rw[nN]at a;rw[l9 xs q a]at e;split at e<;>exact k3 e
def Hj{β:Type} (f:α->β)(xs:List α)(hq:q<xs.length / 2) {a b:α} (c:(fJ xs q)[q]?=some a)(d:(fJ xs q)[xs.length-1-q]?=some b):(((fJ xs q).map f).set q (f b)).set (xs.length-1-q) (f a)=(fJ xs (q+1)).map f:=by
 rw[l9 xs q Qa,q' Qa]at c;rw[l9 xs q Qa,q' Qa]at d;apply aX;intro i;rw[dC,dC,gL,sA,nN];by_cases r:i<xs.length
 .rw[C2,C2,l9 xs _ r,l9 xs _ r];by_cases e:xs.length-1-q=i;·rw[Zde e,Zde Qa,Zde Qa,show xs.length-1-i=q by omega,c];rfl
  .rw[q' e];by_cases j:q=i;·subst j;rw[Zde rfl,Zde Qa,Zde Qa,d];rfl
   .rw[q' j];by_cases h:i<q∨xs.length-q<=i;·rw[Zde h,Zde Qa]
    .rw[q' h,q' Qa]
 .rw[q' Qa,q' Qa,cN (by rw[sA,nN];omega),cN (by rw[sA,nN];omega)]
def Zw{C I:World} {v:Value} (h:RowsOwn w base v xs)(H:QB w C) {x:IR} (B:At 1 Zc C x.A x.l)(E:∀g,x.A=some g->base<=g.block/\g.block<C.heap.size/\some g.block≠v.ownBlock)(r:C.grownBy I v.ownBlock) {d:Nat} (R:I.ownsRow base 30 1 (.slice (some g) (xs.length+1) d) (xs.length+1) ((xs.map fun x=>Value.slice x.A x.l.length x.c)++[.slice x.A x.l.length x.c])) (L:v.ownBlock=some g∨g=C.heap.size):RowsOwn I base (.slice (some g) (xs.length+1) d) (xs++[x]):=by
 have G:∀k,k<C.heap.size->some k≠v.ownBlock->some k≠some g:=fun k U K e=>by
  rcases L with h|h;·exact K (e.trans h.symm)
  .cases e;omega
 have i:∀(A:i')(l:L'),At 1 Zc C A l->(∀g,A=some g->some g.block≠v.ownBlock)->At 1 Zc I A l:=fun A l B Q k y s=>by obtain⟨b,o,E,F,O⟩:=B k y s;refine⟨b,o,E,h8 F r.size,fun j u S=>?_⟩;rw[<-O j u S];exact Q0 (a:=⟨b,o+k*1+j,none⟩) (r.block b F (Q _ E))
 refine⟨by rw[hK,x0];exact R,fun y s=>?_⟩;rcases C1.1 s with s|s;·obtain⟨T,M⟩:=h.row y s;refine⟨i _ _ (T.below H) fun g r=>(M g r).2.2,fun a J=>?_⟩;obtain⟨m,f,n⟩:=M a J;have p:=h8 f H.size;exact⟨m,h8 p r.size,G _ p n⟩
 .rw[y2]at s;subst s;refine⟨i _ _ B fun g r=>(E g r).2.2,fun a J=>?_⟩;obtain⟨m,f,n⟩:=E a J;exact⟨m,h8 f r.size,G _ f n⟩
def RowsOwn.again{w':World} {n c:Nat} {ys:List IR} {cur:bJ} (h:RowsOwn w base (.slice (some g) n c) xs)(F:w.heap.size<=w'.heap.size)(C:∀j,j<w.heap.size->j≠g->w'.heap[j]?=w.heap[j]?)(J:ys.length=xs.length)(E:∀y∈ys,y∈xs)(B:w'.heap[g]?=some (.cells cur 30))(I:∀i,w.heap[g]?=some (.cells i 30)->cur.size=i.size/\cur.toList.take xs.length=ys.map fun x=>Value.slice x.A x.l.length x.c):RowsOwn w' base (.slice (some g) n c) ys:=by
 refine⟨?_,fun y f=>?_⟩
 .obtain⟨t,T⟩:=h.own;rcases T with⟨e,-⟩|⟨S,H,i,e,U,V,W,X,Y,D⟩;·cases e
  .have Q:=e;injection Q with e1 e2 e3;have R:g=S:=by injection e1 with e1;injection e1
   subst R;obtain⟨M,O⟩:=I i V;refine⟨Qd,.inr ⟨g,H,cur,by rw[J];exact e,U,B,by rw[J];exact W,X,by rw[M];exact Y,?_⟩⟩;rw[J,w8];exact O
 .obtain⟨p,G⟩:=h.row y (E y f);have K:∀a,y.A=some a->a.block≠g:=fun a r e=>(G a r).2.2 (by rw[e];rfl);refine⟨fun k z m=>?_,fun a r=>⟨(G a r).1,h8 (G a r).2.1 F,(G a r).2.2⟩⟩;obtain⟨b,o,L,s,Z⟩:=p k z m;refine⟨b,o,L,h8 s F,fun j u d=>?_⟩;rw[<-Z j u d];exact Q0 (a:=⟨b,o+k*1+j,none⟩) (C b s (K _ L))
end Go.Proofs
namespace Go.Proofs
open Tryz
open Go.RowKit
variable {w x:World} {v:Value} {P:aA} {f:aE} {o:Oper} {t:aN} {p:Operand} {b off n c:Nat} {A:i'}
def Z4.cells{d:World} {g k:Nat} {u:Value} (h:Z4 d w v x)(hv:v.ownBlock=some g)(a:d.heap.size<=g:=by omega):Z4 d w v (x.setCell ⟨g,k,none⟩ u):=⟨h.1.setCell a _,by simpa using h.2.1,fun j r i=>(gS _ _ _ _ (by dsimp only;exact fun e=>i (by rw[hv,e]))).trans (h.2.2 j r i)⟩
def MD(h:o.op=.load t p)(a:Sem.run P (isAgg t) x=.ok false x)(d:f p=.pointer (some ⟨b,off,none⟩))(e:x.cell? ⟨b,off,none⟩=some v):(execOp f o).run P x=.ok (.value v) x:=by unfold execOp;rw[h];simp[go_sem,d,e,a]
def ME{q:Operand} {T:Nat} {cur:bJ} (h:o.op=.store t p q)(a:Sem.run P (sizeOf t) x=.ok 1 x)(g:f p=.pointer (some ⟨b,off,none⟩))(hq:f q=v)(d:x.heap[b]?=some (.cells cur T))(e:off<cur.size)(j:.slice A n c=v):(execOp f o).run P x=.ok .skip (x.setCell ⟨b,off,none⟩ v):=by subst j;exact pB h a g hq (u:=cur[off]) (by simp only[World.cell?,d];simp[e3 e]) (by unfold World.frozen?;simp only[d];simp)
def Hk{base:Nat} {e:aN} {d:Nat} {l:hD} (h:w.ownsRow base e d (.slice A n c) n l):n<=c:=by
 rcases h.2 with⟨e,rfl⟩|⟨g,a,i,e,-,-,j,-⟩;·exact k2 _
 .cases e;exact j
def Hl(s below:Nat)(w:World)(cX:below<=8)(dA:s<=9):Calls prog 59 #[s,below] w fun e w'=>(∃A c ys,e=.returned (.slice A (cmb 0 below s).length c)/\RowsOwn w' w.heap.size (.slice A (cmb 0 below s).length c) ys/\ys.map IR.l=(cmb 0 below s).map ZO/\∀y∈ys,y.l.length<=y.c)/\QB w w':=by
 obtain⟨i0,hi,cI,cJ,cK⟩:=n9 info3;obtain⟨i1,hj,bX,bY,bZ⟩:=n9 info31;have aF:=w0 (Ha below (w5.2 Qa) s (w5.2 Qa));obtain⟨P,hP⟩:=Qu (2^below);rw[hP]at aF;obtain⟨CL,aJ⟩:=Qu ((cmb 0 below s).length);rw[aJ];have aQ:=w0 aJ;obtain⟨CM,aK⟩:=Qu ((cmb 0 below s).map ZO);rw[aK];have aR:=w0 aK;clear aJ aK;have cU:P<=256:=by rcases below with _|_|_|_|_|_|_|_|_|n<;>first|omega|(subst hP;decide)
 have cD:(2:Int)^below=(P:Int):=by rw[<-hP];simp
 clear hP;go_enter func59,ntmps59;go_wp2;go_loopw [5,6] (fun v5 i wr=>∃(N:Nat)(ys:List IR),N<=P/\i=.int .i64 N/\Hid (RowsOwn wr w.heap.size v5 ys/\ys.map IR.l=(RR below s N).map ZO)/\Hid (∀y∈ys,y.l.length<=y.c)/\QB w wr)(fun _ i _=>P-(intOf i).toNat);case atStart=>exact⟨0,[],k2 _,rfl,w0 ⟨RowsOwn.nil _ _,rfl⟩,w0 (fun y h=>by cases h),l3 _ _⟩
 case round=>
  obtain⟨wo,cH⟩:∃wo,wo=wr:=⟨_,rfl⟩;subst cH;obtain⟨N,ys,hN,rfl,I,W,O⟩:=hrel;have bM:ys.length<=N:=by have z:=w6 List.length I.out.2;rw[sA,sA]at z;have:=Hc below s N;omega
  obtain⟨A5,c5,rfl⟩:=Z3 I.out.1.own;by_cases dF:N<P
  .have cQ:(N:Int)<(P:Int):=Qa
   have aP:=w5.2 (show N<256 by omega);have bI:=w0 (Gy N aP);go_wp2;go_loopw [7,8] (fun v7 j wi=>∃q:Nat,q<=below/\j=.int .i64 q/\Hid (wi.ownsRow wo.heap.size 3 1 v7 (B7 below N q).length ((ZO (B7 below N q)).map (Value.int .i64)))/\QB wo wi)(fun _ j _=>below-(intOf j).toNat);case atStart=>exact⟨0,k2 _,rfl,w0 (gE _ _ _ _),l3 _ _⟩
   case round=>
    obtain⟨q,hq,rfl,U,Q⟩:=hrel;have bA:=via O Q;have aL:=Hd below N q;obtain⟨A7,c7,rfl⟩:=Z3 U.out;by_cases dI:q<below
    .have aO:(q:Int)<(below:Int):=Qa
     have cF:IntKind.i64.wrap ((below:Int)-1)=(below:Int)-1:=B3 _ Qa;obtain⟨d,hd⟩:=Qu (below-1-q);have cG:IntKind.i64.wrap ((below:Int)-1-(q:Int))=(d:Int):=by rw[B3 _ Qa];omega
     obtain⟨t,ht⟩:=Qu (N>>>d);have dL:(N:Int) / 2^d=(t:Int):=by rw[<-ht];exact bI.out d (w5.2 Qa)
     have R:t<256:=by
      have:N>>>d<=N:=by rw[AY];exact kI _ _
      omega
     have V:bits .and .i64 (t:Int) 1=((t%2:Nat):Int):=Gz t (w5.2 R);rcases AZ t with S|S
     .rw[S]at V;simp only[uP,uQ,uR]at V;have hst:=w0 (Hf (below:=below) (N:=N) (q:=q) (by rw[hd,ht];exact S));have aV:=w0 (by have:=U.out;rwa [<-hst.out]at this);have bE:=w0 (w6 List.length hst.out);clear S ht R U;go_wp2;go_roundw;case rel=>exact⟨q+1,Qa,Qj,by rw[bE.out]at aV;rw[bE.out];exact aV.out,Q⟩
      case measure=>exact Qv
     .rw[S]at V;simp only[uP,uQ,uR]at V;have hst:=w0 (He (below:=below) (N:=N) (q:=q) (by rw[hd,ht];exact S));obtain⟨L,J⟩:=Qu ((B7 below N q).length);have bO:=w0 (show (B7 below N (q+1)).length=L+1 by rw[hst.out,hK,J];rfl);have cA:=w0 (show (ZO (B7 below N (q+1))).map (Value.int .i64)=(ZO (B7 below N q)).map (Value.int .i64)++[.int .i64 (q:Int)]by rw[hst.out];simp[ZO]);rw[J]at U aL;have aY:=Q.size;rw[J];clear S ht R hst J;go_wp2_with (at_builtin;refine X0 _ rfl _ _ 30 rfl wo.heap.size 3 i0 (.int .i64 0) 1 8 underlying30 hi cI cJ cK rfl Qc _ L _ rfl (U.out.alloc _) ⟨wr.heap.size,0,none⟩ 1 1 [.int .i64 (q:Int)] rfl rfl ?c1 ?c2 ?c3 ?c4 ?c5 ?_);case c1=>exact D7 _ [.int .i64 (q:Int)] _ Qd
      case c2=>intro u hu;simp at hu;subst hu;rfl
      case c3=>unfold maxLen;omega
      case c4=>omega
      case c5=>simp;omega
      intro v' w3 Y bD _;have aX:QB wo w3:=ZS (via Q (ZC _ _)) bD fun b e=>(U.out.lt b e).1;have bR:=w0 (show w3.ownsRow wo.heap.size 3 1 v' (B7 below N (q+1)).length ((ZO (B7 below N (q+1))).map (Value.int .i64))by rw[bO.out,cA.out];exact Y);clear Y bD U;go_wp2;go_roundw;case rel=>exact⟨q+1,Qa,Qj,bR.out,aX⟩
      case measure=>exact Qv
    .obtain rfl:below=q:=Qa
     have aO:¬(below:Int)<(below:Int):=Qa
     have aD:=w0 (Hb below s N);obtain⟨l,hl⟩:=Qu (B7 below N below);rw[hl]at U aD aL |-;obtain⟨L,J⟩:=Qu l.length;rw[J]at U aD aL |-;have aT:=w0 J;have bU:=w0 (Hk U.out);have bS:=w0 (e7 U.out);have B:=w0 (I.out.1.below Q);have bF:=w0 fun g (h:A7=some g)=>U.out.lt g.block (by rw[h];rfl);have X:=w0 I.out.2;have bL:=w0 fun g (h:(Value.slice A5 ys.length c5).ownBlock=some g)=>I.out.1.own.lt g h;have aY:=Q.size;have cN:=O.size;clear I U hl J;by_cases bB:L=s
     .obtain rfl:=bB;obtain⟨M,hM⟩:=Qu ys.length;have F:=w0 hM;rw[hM]at B bM |-;clear hM;go_wp2_with (at_builtin;refine r9 _ rfl _ _ 111 rfl w.heap.size 30 i1 (.slice none 0 0) 1 24 underlying111 hj bX bY bZ rfl Qc _ M _ rfl (by have:=(B.out.below (ZC wr (.cells #[.slice A7 L c7] 30))).own;rw[F.out]at this;exact this) ⟨wr.heap.size,0,none⟩ 1 1 [.slice A7 L c7] rfl rfl ?c1 ?c2 Qc ?c3 ?c4 ?c5 (wr.heap.size+1) ?c6 ?_);case c2=>first|rfl|(intro u hu;simp at hu;subst hu;rfl)
      case c3=>first|omega|(unfold maxLen;omega)
      case c4=>omega
      case c5=>first|omega|(simp;omega)
      intro g bN w4 Z aM aI cP;have bG:(ZO l).length=L:=by rw[x7,aT.out]
      have aW:=w0 (Zw (x:=⟨A7,c7,ZO l⟩) B.out (ZC wr _) (bS.out.below (ZC wr _)) (fun a ha=>by have z:=bF.out a ha;refine⟨Qa,Qk,fun e=>?_⟩;have:=(bL.out _ (by rw[F.out];exact e.symm)).2;omega) aM (by rw[F.out];dsimp only;rw[bG];exact Z) (by simpa using aI));rw[F.out]at aW;have aZ:QB w w4:=ZS (via (via O Q) (ZC _ _)) aM fun b e=>by have:=(bL.out b (by rw[F.out];exact e)).1;omega
      have aN:=w0 (show (ys++[(⟨A7,c7,ZO l⟩:IR)]).map IR.l=(RR below L (N+1)).map ZO by rw[aD.out,Zde trivial,x0,x0,X.out];rfl);clear Z aM aI B;go_wp2;go_roundw;case rel=>exact⟨N+1,_,Qa,Qj,⟨aW.out,aN.out⟩,w0 (fun y hy=>by
       rcases C1.1 hy with h|h;·exact W.out y h
       .rw[y2.1 h];dsimp only;rw[bG];exact bU.out),aZ⟩
      case measure=>exact Qv
     .have cW:((L:Int)==(s:Int))=false:=Qk
      have V:¬(L:Int)=(s:Int):=Qa
      have aN:=w0 (show ys.map IR.l=(RR below s (N+1)).map ZO by rw[aD.out,q' bB,q5,X.out]);go_wp2;go_roundw;case rel=>exact⟨N+1,_,Qa,Qj,⟨B.out,aN.out⟩,W,bA⟩
      case measure=>exact Qv
  .obtain rfl:P=N:=Qa
   have cV:¬(P:Int)<(P:Int):=Qa
   have cE:=w0 (show RR below s P=(cmb 0 below s).reverse by rw[<-aF.out,MA]);have aH:=w0 (show ys.map IR.l=((cmb 0 below s).reverse).map ZO by rw[I.out.2,cE.out]);have B:=w0 I.out.1;obtain⟨M,hM⟩:=Qu ys.length;have F:=w0 hM;have aU:=w0 (show (cmb 0 below s).length=M by have z:=w6 List.length aH.out;rw[sA,sA,List.length_reverse,hM]at z;exact z.symm);rw[hM]at B bM |-;rw[aQ.out]at aU;have aG:(M:Int).tdiv 2=((M / 2:Nat):Int):=by rw[Int.tdiv_eq_ediv_of_nonneg Qa];omega
   have bV:IntKind.i64.wrap ((M:Int).tdiv 2)=((M / 2:Nat):Int):=by rw[aG];exact B3 _ Qa
   obtain⟨H,hH⟩:=Qu (M / 2);rw[hH]at aG bV;have cS:IntKind.i64.wrap (H:Int)=(H:Int):=B3 _ Qa;have aS:=w0 hH;clear I hM hH;go_wp2;clear cD;go_loopw [9] (fun i wl=>∃q:Nat,q<=H/\i=.int .i64 q/\Hid (RowsOwn wl w.heap.size (.slice A5 M c5) (fJ ys q))/\QB w wl) (fun i _=>H-(intOf i).toNat);case atStart=>exact⟨0,k2 _,rfl,w0 (by rw[Hg];exact B.out),O⟩
   case round=>
    clear B O;obtain⟨q,hq,rfl,B,O⟩:=hrel;by_cases dG:q<H
    .have aO:(q:Int)<(H:Int):=Qa
     have cT:=aS.out;have aA:=F.out;have bH:=nN ys q;have aB:wr.ownsRow w.heap.size 30 1 (.slice A5 M c5) M ((fJ ys q).map fun x=>Value.slice x.A x.l.length x.c):=by have:=B.out.own;rwa [bH,aA]at this
     obtain⟨a,ha⟩:∃a,(fJ ys q)[q]?=some a:=⟨_,h' Qa⟩;obtain⟨b,S⟩:∃b,(fJ ys q)[M-1-q]?=some b:=⟨_,h' Qa⟩;have hst:=w0 (Hj (fun x:IR=>Value.slice x.A x.l.length x.c) ys (q:=q) Qa ha (by rw[aA];exact S));obtain⟨g,hA,dD,dE,ca⟩:=X5 aB (k:=q) (u:=.slice a.A a.l.length a.c) (by rw[C2,ha];rfl);subst hA;obtain⟨g',hA,-,-,cb⟩:=X5 aB (k:=M-1-q) (u:=.slice b.A b.l.length b.c) (by rw[C2,S];rfl);obtain rfl:g=g':=by injection hA with hA;injection hA
     clear hA;have dH:(q:Int)<(M:Int):=Qa
     obtain⟨r,hr⟩:=Qu (M-1-q);rw[hr]at cb;have cF:IntKind.i64.wrap ((M:Int)-1)=(M:Int)-1:=B3 _ Qa;have cG:IntKind.i64.wrap ((M:Int)-1-(q:Int))=(r:Int):=by rw[B3 _ Qa];omega
     have dK:(r:Int)<(M:Int):=Qa
     have dJ:q≠r:=Qa
     rw[aA,hr]at hst;obtain⟨cur,T,dB,bC⟩:∃cur,wr.heap[g]?=some (.cells cur 30)/\M<=cur.size/\cur.toList.take M=(fJ ys q).map fun x=>Value.slice x.A x.l.length x.c:=by
      obtain⟨z,h2⟩:=aB;rcases h2 with⟨e,-⟩|⟨g',bN,aE,e,h3,h4,h5,h6,h7,h8⟩;·cases e
      .have e':=e;injection e' with e1 e2 e3;obtain rfl:g=g':=by injection e1 with e1;injection e1
       rw[w8]at h7 h8;exact⟨aE,h4,Qa,h8⟩
     have aC:=w0 fun(w':World) z h2 h3=>RowsOwn.again (w':=w') (ys:=fJ ys (q+1)) (cur:=(cur.setIfInBounds q (.slice b.A b.l.length b.c)).setIfInBounds r (.slice a.A a.l.length a.c)) B.out z h2 (by rw[nN,nN]) (fun y hy=>by
      have h4:=Hi ys _ hy;obtain⟨i,hi⟩:=r2.1 h4;have bW:=(p1.1 hi).1;by_cases hc:i<q∨ys.length-q<=i;·refine k3 (i:=ys.length-1-i) ?_;rw[l9 ys q Qa,Zde Qa,show ys.length-1-(ys.length-1-i)=i by omega];exact hi
      .refine k3 (i:=i) ?_;rw[l9 ys q bW,q' hc];exact hi) h3 (fun aE h0=>by rw[T]at h0;cases h0;refine⟨Qd,?_⟩;rw[bH,aA,<-hst.out,<-bC];simp only[FX];rw[oQ,oQ]);clear B hst bC aB;go_wp2;refine p5 Qb ?_;obtain⟨va,bJ⟩:∃v:Value,.slice a.A a.l.length a.c=v:=⟨_,rfl⟩;obtain⟨vb,bK⟩:∃v:Value,.slice b.A b.l.length b.c=v:=⟨_,rfl⟩;rw[bJ]at ca aC;rw[bK]at cb aC;apply dM w (Z4 w wr (.slice (some g) M c5)) [15,19,21,23] (fun j h=>if j=15 then vb else if j=19 then va else undef)
      (fun L h x=>(L 21=true->L 15=true/\L 19=true)/\(L 23=true->L 21=true)/\x.heap[g]?=some (.cells (if L 23 then (cur.setIfInBounds q vb).setIfInBounds r va else if L 21 then cur.setIfInBounds q vb else cur) 30));case hB=>kernel_rfl
     case hB'=>intro h;kernel_rfl
     case hS|hN=>kernel_rfl
     case hC0=>exact Z4.refl O
     case hCs=>exact fun x x' h S=>h.below S
     case hCw=>exact fun x h=>h.1
     case hq=>
      intro h u hu dC cZ cY;simp only[mixL,yieldsC,l5,n7,Nat.reduceAdd,Nat.reduceBEq,m',o7,sS,p',k7,nK,ZyJ,ZyI,r5,Nat.reduceEqDiff];repeat (go_big_quiet_step (fail))
      exact ZyG rfl
     case h0=>intro L I;rw[I 21 Qd,I 23 Qd];exact⟨(fun h=>by cases h),(fun h=>by cases h),T⟩
     case hst=>rintro L L' h x x' I ⟨j1,j2,m⟩ S;rw[I 15 Qd,I 19 Qd,I 21 Qd,I 23 Qd];exact⟨j1,j2,Zx S m⟩
     case hind=>exact Qx
     case hsp=>
      rintro j hj o ho L h x ⟨j1,j2,m⟩ D cR K G cO;simp only[ZBq,ZBH,ZyH]at hj;rcases hj with rfl|rfl|rfl|rfl
      .simp only[p0,B4,M3]at ho;subst ho;have C:L 21=false:=by cases e:L 21 with
        |false=>rfl|true=>rw[(j1 e).1]at K;cases K
       have E:L 23=false:=by cases e:L 23 with
        |false=>rfl|true=>rw[j2 e]at C;cases C
       rw[C,E]at m;have cx:=(Q0 (a:=⟨g,r,none⟩) (m.trans T.symm)).trans cb;refine G1 (v:=vb) (x:=x) (MD rfl Qb Qb cx) ⟨D,.inr ⟨Gh.zero,rfl,?_,?_,?_⟩⟩;·rw[ZM Qc,C];exact fun h=>by cases h
       .rw[ZM Qc,E];exact fun h=>by cases h
       .rw[ZM Qc,ZM Qc,C,E];exact m
      .simp only[p0,B4,M3]at ho;subst ho;have C:L 21=false:=by cases e:L 21 with|false=>rfl|true=>rw[(j1 e).2]at K;cases K
       have E:L 23=false:=by cases e:L 23 with|false=>rfl|true=>rw[j2 e]at C;cases C
       rw[C,E]at m;have cx:=(Q0 (a:=⟨g,q,none⟩) (m.trans T.symm)).trans ca;refine G1 (v:=va) (x:=x) (MD rfl Qb Qb cx) ⟨D,.inr ⟨Gh.zero,rfl,?_,?_,?_⟩⟩;·rw[ZM Qc,C];exact fun h=>by cases h
       .rw[ZM Qc,E];exact fun h=>by cases h
       .rw[ZM Qc,ZM Qc,C,E];exact m
      .simp only[p0,B4,M3]at ho;subst ho;have E:L 23=false:=by cases e:L 23 with|false=>rfl|true=>rw[j2 e]at K;cases K
       have cL:L 15=true:=G {on:=15,ground:=.data} Qd rfl;have cM:L 19=true:=G {on:=19,ground:=.phase} Qd rfl;rw[K,E]at m;simp only[nK,ZyI]at m;refine fU (x:=x.setCell ⟨g,q,none⟩ vb) (ME rfl Qb Qb Qb m Qa bK) ⟨D.cells rfl,.inl ⟨rfl,?_,?_,?_⟩⟩;·exact fun _=>⟨by rw[ZM Qc];exact cL,by rw[ZM Qc];exact cM⟩
       .exact fun _=>dN
       .rw[ZM Qc,dN,E];exact ZH m _ rfl
      .simp only[p0,B4,M3]at ho;subst ho;have C:L 21=true:=G {on:=21,ground:=.chain} Qd rfl;rw[K,C]at m;simp only[nK,ZyI,ZyJ]at m;refine fU (x:=x.setCell ⟨g,r,none⟩ va) (ME rfl Qb Qb Qb m Qk bJ) ⟨D.cells rfl,.inl ⟨rfl,?_,?_,?_⟩⟩;·intro h;rw[ZM Qc]at h;exact⟨by rw[ZM Qc];exact(j1 h).1,by rw[ZM Qc];exact(j1 h).2⟩
       .exact fun _=>by rw[ZM Qc];exact C
       .rw[dN];exact ZH m _ rfl
     case hend=>
     rintro h u ⟨-,-,m⟩ D -;simp only[ZyJ]at m;have bP:=w0 (aC.out u D.2.1 (fun j z h2=>D.2.2 j z (fun e=>h2 (R' e))) m);have bT:=D.1;clear m D aC;go_wp2;go_roundw;case rel=>exact⟨q+1,Qa,Qj,bP.out,bT⟩
     case measure=>exact Qv
    .obtain rfl:H=q:=Qa
     have aO:¬(H:Int)<(H:Int):=Qa
     have bQ:=w0 (show RowsOwn wr w.heap.size (.slice A5 M c5) ys.reverse by have:=B.out;rwa [<-aS.out,<-F.out,Hh,F.out]at this);have cC:=w0 (show ys.reverse.map IR.l=CM by rw[<-aR.out,List.map_reverse,aH.out,<-List.map_reverse,MA]);clear B;go_wp2;go_ret;have e:=aU.out;subst e;exact⟨⟨_,_,rfl,_,bQ.out,cC.out,fun y hy=>W.out y (List.mem_reverse.1 hy)⟩,O⟩
def Hm(a below:Nat)(w:World)(h:below<=8)(i:a<=9):Calls prog 59 #[a,below] w fun e g=>(∃A c d,e=.returned (.slice A (cmb 0 below a).length c)/\RowsOwn g w.heap.size (.slice A (cmb 0 below a).length c) d/\d.map IR.l=(cmb 0 below a).map ZO)/\QB w g:=(Hl a below w h i).mono fun e g ⟨⟨A,c,d,j,r,s,_⟩,u⟩=>⟨⟨A,c,d,j,r,s⟩,u⟩
end Go.Proofs
namespace Go.Proofs
open Go.RowKit
variable {w w':World} {base q t:Nat} {v1 v2:Value} {ys:List IR} {rs:L'} {A:i'}
def coX(xs:aF)(t p:Nat):Int:=(xs.getD t default).1.getD p 0
def moX(xs:aF)(t:Nat):Int:=(xs.getD t default).2
def sysM(xs:aF)(ps ts:y0):List (List Int):=List.replicate ps.length 1::ts.map fun t=>ps.map fun p=>coX xs t p
def NB(xs:aF)(ts:y0):List Int:=1::ts.map fun t=>moX xs t
structure SysI (w:World)(base:Nat)(v1 v2:Value)(ys:List IR)(rs:L'):Prop where
 o1:w.ownsRow base 30 1 v1 ys.length (ys.map fun x=>.slice x.A x.l.length x.c)
 o2:w.ownsRow base 3 1 v2 rs.length (rs.map (Value.int .i64))
 ap:s7 v1 v2
 row:∀y∈ys,At 1 Zc w y.A y.l/\y.l.length<=y.c/\∀g,y.A=some g->base<=g.block/\g.block<w.heap.size/\some g.block≠v1.ownBlock/\some g.block≠v2.ownBlock
def SysI.below(h:SysI w base v1 v2 ys rs)(hb:QB w w'):SysI w' base v1 v2 ys rs:=⟨ZI h.o1 hb,ZI h.o2 hb,h.ap,fun y i=>by obtain⟨j,r,s⟩:=h.row y i;exact⟨j.below hb,r,fun g e=>by obtain⟨a,b,c,d⟩:=s g e;exact⟨a,h8 b hb.size,c,d⟩⟩⟩
def pS{α:Type} {cs:α->List Value} {c:Nat} {l:List α} (h:At c cs w A l)(d:∀g,A=some g->w'.heap[g.block]?=w.heap[g.block]?):At c cs w' A l:=fun k z u=>by obtain⟨b,o,i,a,r⟩:=h k z u;have e:=d _ i;dsimp only at e;refine⟨b,o,i,?_,fun j v s=>(Q0 e).trans (r j v s)⟩;exact tA (e.trans (e3 a))
def SysI.push{f u:World} {v1' v2':Value} {y:IR} {r:Int} (h:SysI w base v1 v2 ys rs)(J:At 1 Zc w y.A y.l)(B:y.l.length<=y.c)(s:∀g,y.A=some g->base<=g.block/\g.block<w.heap.size/\some g.block≠v1.ownBlock/\some g.block≠v2.ownBlock)(E:X1 f w v1 v2 u) (G:u.ownsRow base 30 1 v1' (ys.length+1) ((ys.map fun x=>Value.slice x.A x.l.length x.c)++[.slice y.A y.l.length y.c])) (H:u.ownsRow base 3 1 v2' (rs.length+1) (rs.map (Value.int .i64)++[.int .i64 r]))(m1:K2 w.heap.size v1 v1') (m2:K2 w.heap.size v2 v2') (hap:s7 v1' v2'):SysI u base v1' v2' (ys++[y]) (rs++[r]):=by
 refine⟨by rw[hK,x0];exact G,by rw[hK,x0];exact H,hap,fun z i=>?_⟩;have C:At 1 Zc w z.A z.l/\z.l.length<=z.c/\∀g,z.A=some g->base<=g.block/\g.block<w.heap.size/\some g.block≠v1.ownBlock/\some g.block≠v2.ownBlock:=by
  rcases C1.1 i with i|i;·exact h.row z i
  .rw[y2]at i;subst i;exact⟨J,B,s⟩
 obtain⟨K,L,F⟩:=C;refine⟨pS K fun g j=>?_,L,fun g j=>?_⟩;·obtain⟨a,b,c,d⟩:=F g j;exact E.2.2 _ b c d
 .obtain⟨a,b,c,d⟩:=F g j;refine⟨a,h8 b E.2.1,?_,?_⟩
  .rcases m1 with m|⟨k,m,I⟩;·rw[m];exact c
   .rw[m];intro e;cases e;omega
  .rcases m2 with m|⟨k,m,I⟩;·rw[m];exact d
   .rw[m];intro e;cases e;omega
def SysI.rowsAt{n c:Nat} (h:SysI w base (.slice A n c) v2 ys rs):cI w A ys:=by refine⟨fun k x i=>?_,fun x i=>(h.row x i).1⟩;have r:=h.o1;obtain⟨E,F,e⟩:=Z3 r;cases e;obtain⟨g,C,-,s,B⟩:=X5 r (k:=k) (u:=.slice x.A x.l.length x.c) (by rw[C2,i];rfl);refine⟨g,0,C,s,fun j v a=>?_⟩;cases j with|zero=>simp[IR.cs]at a;subst a;simpa using B|succ j=>simp[IR.cs]at a
def Hn(c:aF)(a b:y0)(h:b[q]?=some t):sysM c a (b.take (q+1))=sysM c a (b.take q)++[a.map fun p=>coX c t p]:=by unfold sysM;rw[w9,h];simp
def Ho(b:aF)(a:y0)(h:a[q]?=some t):NB b (a.take (q+1))=NB b (a.take q)++[moX b t]:=by unfold NB;rw[w9,h];simp
def Hp(b:aF)(a:y0)(t:Nat) {p:Nat} (h:a[q]?=some p):(a.take (q+1)).map (fun p=>coX b t p)=(a.take q).map (fun p=>coX b t p)++[coX b t p]:=by rw[w9,h];simp
section
variable {P:aA}
def sV{K:hS} {f:aE} {o:Oper} {x:World} (s y:Operand)(t e:aN)(i:TypeInfo)(O v:Value)(a base n b sz:Nat)(g C:hD)(m:aN)(T:o.op=.call {callee:=.builtin .append,args:=#[s,y],argTypes:=#[t,t]})(z:f s=v)(V:f y=.slice (some b) 1 1)(U:P.underlying t=some (.slice e))(p:P.info? e=some i)(D:i.zero=some O)(B:i.size=sz)(H:i.bytes=a)(M:O.cells.size=sz)(G:a<=1000)(J:0<sz)(L:C.length=sz)(d:x.ownsRow base e sz v n g)(hb:x.heap[b]?=some (.cells C.toArray m))(R:∀u∈C,u.oneCell'=true)(F:n+1<=1000)(j:base<=x.heap.size)(h:∀A c E,E.ownsRow base e sz (.slice A (n+1) c) (n+1) (g++C)->x.grownBy E v.ownBlock->((Value.slice A (n+1) c).ownBlock=v.ownBlock∨(Value.slice A (n+1) c).ownBlock=some x.heap.size)->K (.slice A (n+1) c) E):cE P K ((execOp f o).run P x):=by obtain⟨W,E,r,Q,S,I⟩:=o9 (P:=P) s y t e i O v a base n b sz g C m T z V U p D B H M G J L d hb R F j;obtain⟨A,c,rfl⟩:=Z3 Q;exact G1 r (h A c E Q S I)
end
end Go.Proofs
namespace Go.Proofs
open Tryz
open Go.RowKit
variable {base n:Nat}
def SysI.one{W:World} {B:Nat} {l:L'} (h:ZN 3 W B l)(d:base<=B)(u:l.length=n):SysI ((W.alloc (.cells #[.slice (some B) n n] 30)).alloc (.cells #[(1:Int)] 3)) base (.slice (some W.heap.size) 1 1) (.slice (some ⟨W.heap.size+1,0,none⟩) 1 1) [⟨some ⟨B,0,none⟩,n,l⟩] [1]:=by
 have E:=h.size;refine⟨ZI (RowsOwn.one h d u).own (ZC _ _),?_,fun r e=>?_,fun y i=>?_⟩;·refine⟨rfl,.inr ⟨W.heap.size+1,1,_,rfl,Qa,ZA _ _ Qd,sW _,Qc,rfl,rfl⟩⟩
 .intro j;have a:W.heap.size=r:=R' e;have C:W.heap.size+1=r:=R' j;omega
 .rw[y2]at i;subst i;refine⟨((h.alloc _).at').below (ZC _ _),Qg,fun g s=>?_⟩;cases s;refine⟨d,?_,?_,?_⟩;·simp;omega
  .intro e;have a:B=W.heap.size:=R' e;omega
  .intro e;have a:B=W.heap.size+1:=R' e;omega
def yO{w:World} {e:aN} {b:Nat} {v:Value} {c:hD} (h:w.ownsRow base e b v n c) {g:Nat} (j:v.ownBlock=some g):∃(a:Nat)(i:bJ),base<=g/\w.heap[g]?=some (.cells i e):=by
 rcases h.2 with⟨rfl,-⟩|⟨B,r,i,rfl,s,u,-⟩;·cases j
 .cases j;exact⟨0,i,s,u⟩
def Hq(pA eA aZ tA:i')(pc ec D N c1 c2 m K:Nat)(f:e6)(ps ts:y0)(w:World)(hR:RightE f D)(hE:h7 w eA f)(cR:f.length=N)(hP:At 1 Zc w aZ (ZO ps))(hT:At 1 Zc w tA (ZO ts))(hm:ps.length=m)(bH:ts.length=K)(bO:∀p∈ps,p<D)(bT:∀t∈ts,t<N)(dL:1<=m)(dM:m<=5)(dJ:K<=5):Calls prog 60 #[.agg #[.slice pA D pc,.slice eA N ec],.slice aZ m c1,.slice tA K c2] w fun e w'=>(∃A c B d,e=.returned (.tuple #[.slice A (K+1) c,.slice B (K+1) d])/\∃ys,SysI w' w.heap.size (.slice A (K+1) c) (.slice B (K+1) d) ys (NB (exs f) ts)/\ys.map IR.l=sysM (exs f) ps ts)/\QB w w':=by
 have dI:=hR.n8;have fP:=w0 fun W (H:QB w W) q (hq:q<m)=>(by
  obtain⟨b,o,hA,aF,hc⟩:=D9 (hP.below H) (k:=q) (by rw[x7];omega);obtain⟨p,hp⟩:∃p,ps[q]?=some p:=⟨_,h' Qa⟩;have aV:(ZO ps).getD q 0=(p:Int):=by rw[D1,RP hp];rfl
  rw[aV]at hc;exact⟨p,b,o,hA,aF,hc,hp,bO p (k3 hp)⟩:∃p b o,aZ=some ⟨b,o,none⟩/\b<W.heap.size/\W.cell? ⟨b,o+q,none⟩=some (.int .i64 (p:Nat))/\ps[q]?=some p/\p<D);have fT:=w0 fun W (H:QB w W) q (hq:q<K)=>(by
  obtain⟨b,o,hA,aF,hc⟩:=D9 (hT.below H) (k:=q) (by rw[x7];omega);obtain⟨p,hp⟩:∃p,ts[q]?=some p:=⟨_,h' Qa⟩;have aV:(ZO ts).getD q 0=(p:Int):=by rw[D1,RP hp];rfl
  rw[aV]at hc;exact⟨p,b,o,hA,aF,hc,hp,bT p (k3 hp)⟩:∃p b o,tA=some ⟨b,o,none⟩/\b<W.heap.size/\W.cell? ⟨b,o+q,none⟩=some (.int .i64 (p:Nat))/\ts[q]?=some p/\p<N);have fE:=w0 fun W (H:QB w W) t (ht:t<N)=>(by obtain⟨b,o,hA,aF,bG⟩:=(hE.below H).1 t _ (h' Qa);have hx:=D2 (show t<f.length by omega);obtain⟨F,h2,h3⟩:=hR.co _ hx;have hg:=W9 (h' (show t<f.length by omega));refine⟨f[t],b,o,hA,aF,by have:=bG 1 _ rfl;rwa [F]at this,by rw[show moX (exs f) t=f[t].mo by unfold moX;rw[hg]];exact bG 2 _ rfl,fun p hp=>?_,h' _⟩;obtain⟨b2,o2,hA2,bK,cQ⟩:=D9 ((hE.below H).2 _ hx) (k:=p) Qa;exact⟨b2,o2,hA2,bK,by rw[show coX (exs f) t p=f[t].co.getD p 0 by unfold coX;rw[hg]];exact cQ⟩:∃x:En,∃b o,eA=some ⟨b,o,none⟩/\b<W.heap.size/\W.cell? ⟨b,o+t*3+1,none⟩=some (.slice x.A D x.c)/\W.cell? ⟨b,o+t*3+2,none⟩=some (.int .i64 (moX (exs f) t))/\(∀p,p<D->∃b2 o2,x.A=some ⟨b2,o2,none⟩/\b2<W.heap.size/\W.cell? ⟨b2,o2+p,none⟩=some (.int .i64 (coX (exs f) t p)))/\f[t]?=some x);obtain⟨i0,hi,bW,bX,bZ⟩:=n9 info3;obtain⟨i1,hj,cU,cV,cW⟩:=n9 info31;have bL:=BD m Qa;have aU:=w0 hm;have aE:=w0 bH;obtain⟨X,hX⟩:=Qu (exs f);rw[hX]at fE |-;clear hR hE hP hT hm bH bO bT hX cR;go_enter func60,ntmps60;go_wp2;go_loopw [9] (fun i wr=>∃k:Nat,k<=m/\i=.int .i64 k/\Hid (ZN 3 wr (w.heap.size+1) (List.replicate k 1++List.replicate (m-k) 0))/\wr.heap[w.heap.size]?=some (.cells #[.slice pA D pc,.slice eA N ec] 25)/\QB w wr) (fun i _=>m-(intOf i).toNat);case atStart=>
  refine⟨0,k2 _,rfl,?_,?_,?_⟩;·have:=ZN.new (T:=3) (w.alloc (.cells #[.slice pA D pc,.slice eA N ec] 25)) (List.replicate m 0);simp only[hJ]at this;exact w0 (by simpa using this)
  .exact Qs
  .go_grown
 case round=>
  obtain⟨k,hk,rfl,hI,M0,E⟩:=hrel;have dB:=hI.out.size;by_cases bI:k<m
  .have dK:(k:Int)<(m:Int):=Qa
   have ci:=hI.out.loadD (k:=k) Qk;have fi:=hI.out.frozen k;have bC:=w0 (hI.out.store k 1);rw[DF bI]at bC;clear bL;go_wp2;go_roundw;case rel=>exact⟨k+1,Qa,Qj,bC.out,ZB M0 Qg _,E.setCell Qg _⟩
   case measure=>exact Qv
  .obtain rfl:m=k:=Qa
   have bB:=w0 (show ZN 3 wr (w.heap.size+1) (List.replicate m 1)by simpa using hI.out);clear hI bI bL;go_wp2;go_loopw [10,11,12] (fun v1 v2 i wr=>∃(q:Nat) (A B:i') (c d:Nat) (ys:List IR) (rs:L'),q<=K/\v1=.slice A (q+1) c/\v2=.slice B (q+1) d/\i=.int .i64 q/\Hid (SysI wr w.heap.size (.slice A (q+1) c) (.slice B (q+1) d) ys rs/\ys.map IR.l=sysM X ps (ts.take q)/\rs=NB X (ts.take q))/\wr.heap[w.heap.size]?=some (.cells #[.slice pA D pc,.slice eA N ec] 25)/\QB w wr) (fun _ _ i _=>K-(intOf i).toNat);case atStart=>exact⟨0,_,_,_,_,_,_,k2 _,rfl,rfl,rfl,w0 ⟨SysI.one bB.out (Nat.le_succ _) Qd,by simp[sysM,aU.out],by simp[NB]⟩,Zz (Zz M0 _) _,via (via E (ZC _ _)) (ZC _ _)⟩
   case round=>
    clear bB M0 E dB;obtain⟨Z,aY⟩:∃Z,Z=wr:=⟨_,rfl⟩;subst aY;obtain⟨q,A,B,c,d,ys,rs,hq,rfl,rfl,rfl,hS,M0,E⟩:=hrel;by_cases bP:q<K
    .have cZ:(q:Int)<(K:Int):=Qa
     obtain⟨t,bt,ot,rfl,cO,ct,aX,aI⟩:=fT.out Z E q bP;have bA:=w0 fun(W:World)(H:QB w W)=>(by obtain⟨t',cD,dD,e,F,h2,h3,-⟩:=fT.out W H q bP;cases e;rw[aX]at h3;cases h3;exact⟨F,h2⟩:bt<W.heap.size/\W.cell? ⟨bt,ot+q,none⟩=some (.int .i64 (t:Nat)));have bS:=w0 (Hn X ps ts aX);have aO:=w0 (Ho X ts aX);have M:=hS;have s0:=ZG M0;clear ct cO;go_wp2;go_loopw [13,14] (fun dE j wi=>∃p:Nat,p<=m/\j=.int .i64 p/\Hid (wi.ownsRow Z.heap.size 3 1 dE p (((ps.take p).map fun x=>coX X t x).map (Value.int .i64)))/\QB Z wi)(fun _ j _=>m-(intOf j).toNat);case atStart=>exact⟨0,k2 _,rfl,w0 (gE _ _ _ _),l3 _ _⟩
     case round=>
      obtain⟨aB,aY⟩:∃Z,Z=wr:=⟨_,rfl⟩;subst aY;obtain⟨p,hp,rfl,hO,aA⟩:=hrel;have S:=via E aA;obtain⟨C,I,rfl⟩:=Z3 hO.out;have Q0:=Zx aA M0;by_cases bN:p<m
      .have cY:(p:Int)<(m:Int):=Qa
       obtain⟨pp,bp,op,rfl,cN,cp,aW,aN⟩:=fP.out aB S p bN;have dG:(pp:Int)<(D:Int):=Qa
       have dC:(t:Int)<(N:Int):=Qa
       obtain⟨x,be,oe,rfl,aS,aP,aQ,aH,aJ⟩:=fE.out aB S t aI;obtain⟨bc,oc,bU,cM,cc⟩:=aH pp aN;have cF:=w0 fun(W:World)(H:QB w W)=>(by obtain⟨t',cD,dD,e,F,h2,h3,-⟩:=fP.out W H p bN;cases e;rw[aW]at h3;cases h3;exact⟨F,h2⟩:bp<W.heap.size/\W.cell? ⟨bp,op+p,none⟩=some (.int .i64 (pp:Nat)));have aC:=w0 fun(W:World)(H:QB w W)=>(by obtain⟨x',b',o',e,F,h2,h3,h4,h5⟩:=fE.out W H t aI;cases e;rw[aJ]at h5;cases h5;obtain⟨dH,dO,e2,g1,g2⟩:=h4 pp aN;rw[bU]at e2;cases e2;rw[bU]at h2;exact⟨F,h2,g1,g2⟩:be<W.heap.size/\W.cell? ⟨be,oe+t*3+1,none⟩=some (.slice (some ⟨bc,oc,none⟩) D x.c)/\bc<W.heap.size/\W.cell? ⟨bc,oc+pp,none⟩=some (.int .i64 (coX X t pp)));have bR:=w0 (Hp X ps t aW);obtain⟨V,hV⟩:=Qu (coX X t pp);rw[hV]at aC bR;have bM:=w0 (show some w.heap.size≠(Value.slice C p I).ownBlock from fun e=>by have:=(hO.out.lt _ e.symm).1;omega);have aD:=aA.size;have bD:=E.size;clear cp aP aQ aH cc aW cN aS cM aJ hV;go_wp2;refine p5 Qb ?_;refine v8 18 _ rfl rfl Qb Qb Qb Qb ?_;simp only[sT,j0];apply lN Z (Z4 Z aB (.slice C p I)) [16,17] (fun j=>if j=17 then [16]else [])
        (fun j g=>if j=16 then .slice (some g.b) 1 1 else .slice g.a1 (p+1) g.c1)
        (fun i g y=>(i<2->y.ownsRow Z.heap.size 3 1 (.slice C p I) p (((ps.take p).map fun x=>coX X t x).map (Value.int .i64)))/\(i=1->aB.heap.size<=(g 16).b/\y.heap[(g 16).b]?=some (.cells #[V] 3)) /\(i=2->y.ownsRow Z.heap.size 3 1 (.slice (g 17).a1 (p+1) (g 17).c1) (p+1) (((ps.take (p+1)).map fun x=>coX X t x).map (Value.int .i64))));case hB=>kernel_rfl
       case hB'=>intro g;kernel_rfl
       case hS|hN=>kernel_rfl
       case hnd=>decide
       case hD=>kernel_rfl
       case hdep=>intro i hi;rcases i with _|i<;>first|decide|(simp at hi;omega)
       case hC0=>exact Z4.refl aA
       case hCs=>exact fun y y' h H=>h.below H
       case hCw=>exact fun y h=>h.1
       case hq=>
        intro g u P cT cP cL;have J:=via E P.1;obtain⟨z1,y1⟩:=bA.out u J;obtain⟨z2,y2⟩:=cF.out u J;obtain⟨z3,y3,z4,y4⟩:=aC.out u J;have N0:=DY P Q0 bM.out;have D0:=bk2 N0;have zn:=ZG N0;clear N0;simp only[mixL,yieldsC,l5,n7,Nat.reduceAdd,Nat.reduceBEq,m',o7,sS,p',k7,nK,ZyJ,ZyI,r5,Nat.reduceEqDiff];repeat (go_big_quiet_step (fail))
        exact ZyG rfl
       case h0=>exact⟨fun _=>hO.out,fun h=>Qa,fun h=>Qa⟩
       case hR=>rintro i g y y' ⟨r0,r1,r2⟩ H;exact⟨fun h=>ZI (r0 h) H,fun h=>⟨(r1 h).1,Zx H (r1 h).2⟩,fun h=>ZI (r2 h) H⟩
       case hind=>exact Qz
       case hsp=>
        rintro i j aT o s g y ⟨r0,r1,r2⟩ z;rcases i with _|_|i;·cases aT;simp only[p0,B4,M3]at s;subst s;refine G1 (x:=y.alloc (.cells #[V] 3)) (v:=.slice (some y.heap.size) 1 1) Qb ⟨z.below (ZC _ _),.inr ⟨{Gh.zero with b:=y.heap.size},rfl,fun _=>ZI (r0 Qa) (ZC _ _),fun _=>?_,fun h=>Qa⟩⟩;rw[ZX];exact⟨z.2.1,ZA _ _ rfl⟩
        .cases aT;simp only[p0,B4,M3]at s;subst s;obtain⟨dF,bY⟩:=r1 rfl;refine sV (.tmp 42) (.tmp 58) 30 3 i0 _ (.slice C p I) 8 Z.heap.size p (g 16).b 1 (((ps.take p).map fun x=>coX X t x).map (Value.int .i64)) [.int .i64 V] 3 rfl rfl rfl Qb hi bW bX bZ rfl Qc Qc rfl (r0 Qa) bY (by simp[Value.oneCell']) Qa (h9 aD z.2.1) ?_;intro A9 c9 y' cG cS dN;refine⟨z.grown aD (fun r e=>(hO.out.lt r e).1) cS (fun r e=>.inr e),.inr ⟨{Gh.zero with a1:=A9,c1:=c9},rfl,fun h=>Qa,fun h=>Qa,fun _=>?_⟩⟩;rw[ZX,bR.out,x0];exact cG
        .simp at aT
       rintro g y ⟨-,-,r2⟩ z;have aR:=r2 rfl;refine R3 (.slice (g 17).a1 (p+1) (g 17).c1) rfl ?_;obtain⟨A8,hA8⟩:=Qu ((g 17).a1);obtain⟨c8,bE⟩:=Qu ((g 17).c1);rw[hA8,bE]at aR |-;have cH:=w0 aR;have cK:=z.1;clear aR r2 z hA8 bE;go_wp2;go_roundw;case rel=>exact⟨p+1,Qa,Qj,cH.out,cK⟩
       case measure=>exact Qv
      .obtain rfl:m=p:=Qa
       have cY:¬(m:Int)<(m:Int):=Qa
       have R:=w0 (show ps.take m=ps by rw[<-aU.out,x1]);have aG:=w0 (show aB.ownsRow Z.heap.size 3 1 (.slice C m I) m ((ps.map fun x=>coX X t x).map (Value.int .i64))by have:=hO.out;rwa [R.out]at this);have dC:(t:Int)<(N:Int):=Qa
       obtain⟨x,be,oe,rfl,aS,aP,aQ,aH,aJ⟩:=fE.out aB S t aI;have aC:=w0 fun(W:World)(H:QB w W)=>(by obtain⟨x',b',o',e,F,h2,h3,h4,h5⟩:=fE.out W H t aI;cases e;exact⟨F,h3⟩:be<W.heap.size/\W.cell? ⟨be,oe+t*3+2,none⟩=some (.int .i64 (moX X t)));obtain⟨V,hV⟩:=Qu (moX X t);rw[hV]at aC aO;have O:=w0 (M.out.1.below aA);have bV:=w0 (show ys.length=q+1 by have F:=w6 List.length M.out.2.1;rw[sA]at F;rw[F];simp[sysM,aE.out];omega);have bQ:=w0 (show rs.length=q+1 by rw[M.out.2.2];simp[NB,aE.out];omega);have cA:=w0 (show some w.heap.size≠(Value.slice A (q+1) c).ownBlock from fun e=>by obtain⟨g,cE,e1,F⟩:=yO O.out.o1 e.symm;rw[Q0]at F;cases F);have cC:=w0 (show some w.heap.size≠(Value.slice B (q+1) d).ownBlock from fun e=>by obtain⟨g,cE,e1,F⟩:=yO O.out.o2 e.symm;rw[Q0]at F;cases F);have r1:=w0 fun r (e:(Value.slice A (q+1) c).ownBlock=some r)=>M.out.1.o1.lt r e;have r2:=w0 fun r (e:(Value.slice B (q+1) d).ownBlock=some r)=>M.out.1.o2.lt r e;have r3:=w0 fun g (e:C=some g)=>aG.out.lt g.block (by rw[e];rfl);have bF:=w0 (sU aG.out);have cJ:=w0 (e7 aG.out);have aD:=aA.size;have bD:=E.size;have aM:=w0 M.out.2;clear aP aQ aH aS aJ hV hS M hO aG;go_wp2;refine p5 Qb ?_;refine v8 17 _ rfl rfl Qb Qb Qb Qb ?_;refine v8 16 _ rfl rfl Qb Qb Qb Qb ?_;simp only[sT,j0];apply r8 w 2 3 14 15 (q+1) (q+1) w.heap.size w.heap.size 30 3 (.slice C m I) (.int .i64 V) (.slice A (q+1) c) (.slice B (q+1) d) (ys.map fun x=>.slice x.A x.l.length x.c) (rs.map (Value.int .i64));case hB=>kernel_rfl
       case hB'=>intro g;kernel_rfl
       case hS|hN=>kernel_rfl
       case hne=>decide
       case hd1=>intro L o s h;simp at s;subst s;simp[Region.binds]at h;simp[h]
       case hd2=>intro L o s h;simp at s;subst s;simp[Region.binds]at h;simp[h]
       case hw=>exact S
       case hv1=>exact fun r e=>(r1.out r e).1
       case hv2=>exact fun r e=>(r2.out r e).1
       case hap=>exact O.out.ap
       case ho1=>exact(by have:=O.out.o1;rwa [bV.out]at this)
       case ho2=>exact(by have:=O.out.o2;rwa [bQ.out]at this)
       case hq=>
        intro g u P cT cP cL;have J:=P.1;obtain⟨z1,y1⟩:=bA.out u J;obtain⟨z3,y3⟩:=aC.out u J;have N0:=M9 P Q0 cA.out cC.out;have D0:=bk2 N0;have zn:=ZG N0;clear N0;simp only[mixL,mkPs,yieldsC,l5,n7,Nat.reduceAdd,Nat.reduceBEq,m',o7,sS,p',k7,nK,ZyJ,ZyI,r5,Nat.reduceEqDiff];repeat (go_big_quiet_step (fail))
        exact ZyG rfl
       case hal1=>intro o' s g y;simp only[p0,B4,M3]at s;subst s;kernel_rfl
       case hal2=>intro o' s g y;simp only[p0,B4,M3]at s;subst s;kernel_rfl
       case hap1=>intro o' s g y z Q hz;simp only[p0,B4,M3]at s;subst s;exact o9 (.tmp 60) (.tmp 62) 111 30 i1 _ _ 24 w.heap.size (q+1) (g 2).b 1 _ [.slice C m I] 30 rfl rfl rfl Qb hj cU cV cW rfl Qc Qc rfl Q hz (by simp[Value.oneCell']) Qa (by have:=z.2.1;omega)
       case hap2=>intro o' s g y z Q hz;simp only[p0,B4,M3]at s;subst s;exact o9 (.tmp 64) (.tmp 74) 30 3 i0 _ _ 8 w.heap.size (q+1) (g 14).b 1 _ [.int .i64 V] 3 rfl rfl rfl Qb hi bW bX bZ rfl Qc Qc rfl Q hz (by simp[Value.oneCell']) Qa (by have:=z.2.1;omega)
       case hind=>exact Qx
       intro g u P U Y aK aL G;generalize (g 3).a1=A6 at U aK G |-;generalize (g 3).c1=c6 at U aK G |-;generalize (g 15).a1=A7 at Y aL G |-;generalize (g 15).c1=c7 at Y aL G |-;have J:QB w u:=P.1;have bJ:(ps.map fun x=>coX X t x).length=m:=by rw[sA,aU.out]
       have cI:=w0 (SysI.push (y:=⟨C,I,ps.map fun x=>coX X t x⟩) (r:=V) (v1':=.slice A6 (q+1+1) c6) (v2':=.slice A7 (q+1+1) c7) O.out cJ.out (by dsimp only;rw[bJ];exact bF.out) (fun a ha=>by
        have F:=r3.out a ha;refine⟨Qa,F.2,fun e=>?_,fun e=>?_⟩;·have:=(r1.out _ e.symm).2;omega
        .have:=(r2.out _ e.symm).2;omega) P (by rw[bV.out,bJ];exact U) (by rw[bQ.out];exact Y) aK aL G);have cX:=w0 (show (ys++[(⟨C,I,ps.map fun x=>coX X t x⟩:IR)]).map IR.l=sysM X ps (ts.take (q+1))by rw[x0,aM.out.1,bS.out];rfl);have dA:=w0 (show rs++[V]=NB X (ts.take (q+1))by rw[aM.out.2,aO.out]);have N0:=M9 P Q0 cA.out cC.out;refine R3 (.slice A6 (q+1+1) c6) Qb ?_;refine R3 (.slice A7 (q+1+1) c7) Qb ?_;clear U Y aK aL G P O;go_wp2;go_roundw;case rel=>exact⟨q+1,A6,A7,c6,c7,_,_,Qa,rfl,rfl,Qj,⟨cI.out,cX.out,dA.out⟩,N0,J⟩
       case measure=>exact Qv
    .obtain rfl:K=q:=Qa
     have cZ:¬(K:Int)<(K:Int):=Qa
     have R:ts.take K=ts:=by rw[<-aE.out,x1]
     rw[R]at hS;clear R;go_wp2;go_ret2;exact⟨⟨_,_,_,_,rfl,ys,by rw[<-hS.out.2.2];exact hS.out.1,hS.out.2.1⟩,E⟩
end Go.Proofs
namespace Go.Proofs
open Go.RowKit
variable {np n c base':Nat} {es:e6} {ps ts:y0} {w w' wp x:World} {v v3 v7:Value} {A:i'}
def spP(np:Nat)(ps:y0)(l:L'):Nat->List Int|0=>List.replicate np 0|q+1=>(spP np ps l q).set (ps.getD q 0) (l.getD q 0)
def mK(np:Nat)(ps:y0)(l:L'):∀q,(spP np ps l q).length=np|0=>by simp[spP]|q+1=>by simp only[spP,gL];exact mK np ps l q
def rE(np:Nat)(es:e6)(ps:y0)(n:Nat):Option (List Int×Int)->List (Int×List Int)|none=>[]|some (l,den)=>if (F2 np es den (spP np ps l n)).2=0 then [(den,spP np ps l n)]else []
def A'(np:Nat) (es:e6) (ps ts:y0):List (Int×List Int):=rE np es ps ps.length (x6 ps.length (sysM (exs es) ps ts) (NB (exs es) ts))
def kE(np:Nat)(es:e6)(ps:y0)(l:List (List Nat)):List (Int×List Int):=l.flatMap (A' np es ps)
def L2(np:Nat)(es:e6)(k:Nat):List (Int×List Int):=(cmb 0 np (k+1)).flatMap fun ps=>kE np es ps (cmb 0 es.length k)
def kP(np:Nat)(es:e6)(k:Nat):List (Int×List Int):=(List.range k).flatMap (L2 np es)
def P1(np:Nat)(es:e6):List (Int×List Int):=kP np es (min (es.length+1) np)
def Hr(np:Nat)(es:e6)(ps ts:y0):(A' np es ps ts).length<=1:=by
 unfold A' rE;split;·exact k2 _
 .split<;>simp
def Hs{l:List (List Nat)} (h:l[n]?=some ts):kE np es ps (l.take (n+1))=kE np es ps (l.take n)++A' np es ps ts:=by unfold kE;rw[w9,h];simp
def Ht{α β:Type} (f:α->List β) {l:List α} {x:α} (h:l[n]?=some x):(l.take (n+1)).flatMap f=(l.take n).flatMap f++f x:=by rw[w9,h];simp
def FZ(np:Nat)(es:e6)(k:Nat):kP np es (k+1)=kP np es k++L2 np es k:=by unfold kP;rw[cO];simp
def F3:∀np∈List.range 5,∀a∈List.range 9,∀k∈List.range 4,(cmb 0 np (k+1)).length*(cmb 0 a k).length<=112:=Qm
def Hu:∀np∈List.range 5,∀a∈List.range 9,∀k∈List.range 4,(cmb 0 np (k+1)).length<=6/\(cmb 0 a k).length<=56:=Qm
def MF:∀{l:y0} {a b:Nat},Asc a b l->∀x∈l,x<b
 |[],_,_,_,x,e=>by cases e|y::l,a,b,h,x,e=>by
  rcases ZBq.1 e with rfl|e;·exact h.2.1
  .exact MF h.2.2 x e
def yP{k:Nat} {l:y0} (h:l∈cmb 0 n k):l.length=k/\∀x∈l,x<n:=⟨Nn 0 n k l h,fun x a=>by have:=MF (sM 0 n k l h) x a;omega⟩
def pT(hR:RightE es np):∀row∈sysM (exs es) ps ts,row.length=ps.length/\ZK 20 row:=fun row a=>by
 unfold sysM at a;rcases ZBq.1 a with rfl|a;·refine⟨Qd,fun x e=>?_⟩;rw[List.mem_replicate]at e;rw[e.2];decide
 .obtain⟨t,-,rfl⟩:=b3.1 a;refine⟨Qd,fun x e=>?_⟩;obtain⟨p,-,rfl⟩:=b3.1 e;unfold coX;rw[D1 (l:=exs es)];cases h:(exs es)[t]? with|none=>simp[default,instInhabitedProd]|some y=>exact(hR.exs_co y (k3 h)).get p
def Hv(hR:RightE es np):ZK 20 (NB (exs es) ts):=fun x a=>by
 unfold NB at a;rcases ZBq.1 a with rfl|a;·decide
 .obtain⟨t,-,rfl⟩:=b3.1 a;unfold moX;rw[D1 (l:=exs es)];cases h:(exs es)[t]? with|none=>simp[default,instInhabitedProd]|some y=>exact hR.exs_mo y (k3 h)
structure CoR where
 A:Option Addr
 c:Nat
 l:List Int
 den:Int
 A3:Option Addr
 n3:Nat
 c3:Nat
 A4:Option Addr
 n4:Nat
 c4:Nat
def CoR.cs(y:CoR):List Value:=[.int .i64 y.den,.slice y.A y.l.length y.c,.slice y.A3 y.n3 y.c3,.slice y.A4 y.n4 y.c4]
def CoR.mx(y:CoR):Int×List Int:=(y.den,y.l)
structure CoOwn (w:World)(base:Nat)(v:Value)(ys:List CoR):Prop where
 own:w.ownsRow base 79 4 v ys.length (ys.flatMap CoR.cs)
 row:∀y∈ys,At 1 Zc w y.A y.l/\∀g,y.A=some g->base<=g.block/\g.block<w.heap.size/\some g.block≠v.ownBlock
def CoOwn.nil(w:World)(base:Nat):CoOwn w base (.slice none 0 0) []:=⟨gE _ _ _ _,fun y h=>by cases h⟩
def CoOwn.below{base:Nat} {ys:List CoR} (h:CoOwn w base v ys)(hb:QB w w'):CoOwn w' base v ys:=⟨ZI h.own hb,fun y a=>⟨(h.row y a).1.below hb,fun g e=>by have:=(h.row y a).2 g e;exact⟨this.1,h8 this.2.1 hb.size,this.2.2⟩⟩⟩
def nW(w:World)(A:i')(b:List CoR):Prop:=At 4 CoR.cs w A b/\∀y∈b,At 1 Zc w y.A y.l
def nW.below{ys:List CoR} (h:nW w A ys)(hb:QB w w'):nW w' A ys:=⟨h.1.below hb,fun y a=>(h.2 y a).below hb⟩
def CoOwn.at_{base:Nat} {d:List CoR} (h:CoOwn w base (.slice A n c) d):nW w A d:=⟨by obtain⟨j,r,e,a⟩:=y5 (cs:=CoR.cs) (sz:=4) (fun _=>rfl) h.own;cases e;exact a,fun y i=>(h.row y i).1⟩
def CoOwn.push{a u:World} {base:Nat} {j:Value} {d:List CoR} (h:CoOwn a base v d) {y:CoR} (B:At 1 Zc a y.A y.l)(C:∀g,y.A=some g->base<=g.block/\g.block<a.heap.size/\some g.block≠v.ownBlock)(H:a.grownBy u v.ownBlock) (J:u.ownsRow base 79 4 j (d.length+1) (d.flatMap CoR.cs++CoR.cs y)) (G:j.ownBlock=v.ownBlock∨j.ownBlock=some a.heap.size):CoOwn u base j (d++[y]):=by
 have F:∀k,k<a.heap.size->some k≠v.ownBlock->some k≠j.ownBlock:=fun k M E e=>by
  rcases G with h|h;·exact E (e.trans h)
  .rw[h]at e;cases e;omega
 refine⟨by rw[hK,rZ];simpa using J,fun z i=>?_⟩;have s:∀y:CoR,At 1 Zc a y.A y.l->(∀g,y.A=some g->base<=g.block/\g.block<a.heap.size/\some g.block≠v.ownBlock)->At 1 Zc u y.A y.l/\∀g,y.A=some g->base<=g.block/\g.block<u.heap.size/\some g.block≠j.ownBlock:=fun y I r=>⟨K0 I H fun g e=>(r g e).2.2,fun g e=>⟨(r g e).1,h8 (r g e).2.1 H.size,F _ (r g e).2.1 (r g e).2.2⟩⟩;rcases C1.1 i with i|i;·obtain⟨K,L⟩:=h.row z i;exact s z K L
 .rw[y2]at i;subst i;exact s z B C
def Hw:(Tryz.prog.info? 79).map (fun i=>(i.zero,i.size,i.bytes))=some (some (.agg #[(0:Int),.slice none 0 0,.slice none 0 0,.slice none 0 0]),4,80):=Qb
def RowsOwn.base{base:Nat} {d:List IR} (h:RowsOwn w base' v d)(hb:base<=base'):RowsOwn w base v d:=⟨b2 h.own hb,fun x a=>⟨(h.row x a).1,fun g e=>⟨h9 hb ((h.row x a).2 g e).1,((h.row x a).2 g e).2⟩⟩⟩
def SysI.base{base:Nat} {f m:Value} {q:List IR} {d:L'} (h:SysI w base' f m q d)(hb:base<=base'):SysI w base f m q d:=⟨b2 h.o1 hb,b2 h.o2 hb,h.ap,fun y a=>⟨(h.row y a).1,(h.row y a).2.1,fun g e=>⟨h9 hb ((h.row y a).2.2 g e).1,((h.row y a).2.2 g e).2⟩⟩⟩
def F5{m:List (List Int)} {right l:L'} {b:Int} (h:x6 n m right=some (l,b))(a:n<=5)(d:∀row∈m,ZK 20 row):l.length=n/\0<b/\b<=384000000:=by
 unfold x6 at h;split at h;·cases h
 rename_i r;cases h;have i:=a8 n m a d;have e:∀n,n<=5->bdN n<=384000000:=Qc
 have j:=e n a;exact⟨Qd,Qa,Qa⟩
def RowsOwn.keep{d:World} {base:Nat} {b:List IR} (h:RowsOwn wp base (.slice A n c) b)(j:Z4 d wp v3 x)(i:∀r,v3.ownBlock=some r->r<base):cI x A b:=by
 have s:=h.rowsAt;refine⟨pS s.1 fun g e=>?_,fun y u=>pS (s.2 y u) fun g e=>?_⟩;·subst e;have B:(Value.slice (some g) n c).ownBlock=some g.block:=rfl;have a:=h.own.lt g.block B;exact j.2.2 _ a.2 fun e=>by have:=i _ e.symm;omega
 .have a:=(h.row y u).2 g e;exact j.2.2 _ a.2.1 fun e=>by have:=i _ e.symm;omega
def Z4.trans2{u:World} (h:Z4 w wp v3 x)(i:Z4 w x v7 u)(b:K2 wp.heap.size v3 v7):Z4 w wp v3 u:=⟨i.1,h9 h.2.1 i.2.1,fun k r a=>(i.2.2 k (h8 r h.2.1) (by
  rcases b with e|⟨j,e,B⟩;·rw[e];exact a
  .rw[e];intro s;have:=R' s;omega)).trans (h.2.2 k r a)⟩
def K2.next{r:Nat} {i:Value} (h:K2 n v3 v7)(C:n<=r)(s:i.ownBlock=v7.ownBlock∨∃k,i.ownBlock=some k/\r<=k):K2 n v3 i:=by
 rcases s with e|⟨k,e,B⟩
 .rcases h with a|⟨j,a,u⟩;·exact .inl (e.trans a)
  .exact .inr ⟨j,e.trans a,u⟩
 .exact .inr ⟨k,e,Qa⟩
variable {m:List (List Int)} {n k:Nat} {right:L'} {y:aC} {D:Int}
def NP:Nat->(Nat->Nat->Int)->Int|0,_=>1|n+1,f=>sumN (n+1) fun k=>sgnN k*f 0 k*NP n fun i j=>f (i+1) (if j<k then j else j+1)
def MG:∀(n:Nat)(f g:aB),(∀i j,i<n->j<n->f i j=g i j)->NP n f=NP n g|0,_,_,_=>rfl|n+1,f,g,h=>by unfold NP;refine aT fun k a=>?_;rw[h 0 k Qa a,MG n (fun i j=>f (i+1) (if j<k then j else j+1)) (fun i j=>g (i+1) (if j<k then j else j+1)) fun i j e r=>h _ _ Qa (by split<;>omega)]
def Hx(d:∀row∈m,row.length=n+1) (f:k<n+1) (i j:Nat) (b:i+1<m.length):entR (e4 m k) i j=entR m (i+1) (if j<k then j else j+1):=by
 have a:m[i+1]?=some (m[i+1]'b):=h' b;have r:=d _ (D2 b);generalize m[i+1]'b=row at*;have e:(e4 m k)[i]?=some (row.take k++row.drop (k+1)):=by unfold e4;rw[C2,x4,aM 1 i,a];rfl
 unfold Go.Proofs.entR;rw[D1 (l:=e4 m k),e,D1 (l:=m),a];simp only[M0,D1];congr 1;rw[FW,Q3];by_cases h:j<k;·rw[Zde Qa,Zde h,eY,Zde h]
 .rw[q' Qa,q' h,x4];congr 1;omega
def Hy(b:∀row∈m,row.length=n+1)(d:k<n+1):∀row∈e4 m k,row.length=n:=fun row e=>by obtain⟨r,a,rfl⟩:=b3.1 e;have:=b r (xZ a);simp;omega
def yQ:∀(n:Nat)(m:List (List Int)),m.length=n->(∀row∈m,row.length=n)->detN n m=NP n (entR m)|0,m,_,_=>rfl|n+1,m,hl,hm=>by unfold detN NP;refine aT fun k a=>?_;rw[yQ n (e4 m k) (by rw[vI];omega) (Hy hm a)];congr 1;exact MG n _ _ fun i j e h=>Hx hm a i j Qa
def Hz(f:aB)(a:1<=n)(b:n<=4):NP n f=ZW f n:=by
 rcases n with _|_|_|_|_|n;·omega
 .simp[NP,sumN,sgnN,detP1]
 .simp[NP,sumN,sgnN,detP2,d2];grind
 .simp[NP,sumN,sgnN,detP3,d3,d2];grind
 .simp[NP,sumN,sgnN,detP4,d4,d3,d2];grind
 .omega
def F6(e:m.length=n)(d:∀row∈m,row.length=n)(a:1<=n)(b:n<=4):detN n m=dT (fun c i=>entR m i c) n:=by rw[yQ n m e d,Hz _ a b];rfl
def Ia(s:m.length=n)(b:∀row∈m,row.length=n)(f:k<n)(i c:Nat)(d:i<n)(r:c<n):entR (B6 m right k) i c=if c=k then right.getD i 0 else entR m i c:=by
 have a:(B6 m right k)[i]?=some ((m.getD i []).set k (right.getD i 0)):=by unfold B6;rw[BV Qa,Zde Qa]
 have j:(m.getD i []).length=n:=by rw[D1,h' Qa];exact b _ (D2 _)
 unfold Go.Proofs.entR;rw[D1 (l:=B6 m right k),a];simp only[M0];rw[D1,dC];by_cases e:c=k;·subst e;rw[Zde rfl,Zde rfl,Zde Qa];rfl
 .rw[q' (fun h=>e h.symm),q' e,<-D1]
def Ib(s:m.length=n)(b:∀row∈m,row.length=n)(f:k<n)(d:n<=4):detN n (B6 m right k)=dT (updF (fun c i=>entR m i c) k fun i=>right.getD i 0) n:=by
 have h:(B6 m right k).length=n:=by unfold B6;rw[W7];exact s
 have r:∀row∈B6 m right k,row.length=n:=fun row B=>by obtain⟨i,a⟩:=r2.1 B;have j:=(p1.1 a).1;rw[h]at j;unfold B6 at a;rw[BV Qa,Zde Qa]at a;cases a;rw[gL,D1,h' Qa];exact b _ (D2 _)
 rw[F6 h r Qa d];refine lM Qa fun i a c u=>?_;show entR (B6 m right k) i c=_;rw[Ia s b f i c a u];unfold updF;by_cases e:c=k;·rw[Zde e,Zde e]
 .rw[q' e,q' e]
def Ic(a:m.length=n)(f:∀row∈m,row.length=n)(e:1<=n)(d:n<=4)(h:∀i,i<n->sumN n (fun c=>y c*entR m i c)=D*right.getD i 0)(b:k<n):D*detN n (B6 m right k)=y k*detN n m:=by rw[Ib a f b d,F6 a f e d,<-FU (fun c i=>entR m i c) y Qa b,<-a6 _ _ n k Qa b,<-a6 _ (fun i=>sumN n fun c=>y c*entR m i c) n k Qa b,<-cW];refine aT fun i j=>?_;rw[h i j];grind
def Ie{l:L'} {b:Int} (d:x6 n m right=some (l,b))(e:m.length=n)(p:∀row∈m,row.length=n)(a:1<=n)(o:n<=4)(h:∀i,i<n->sumN n (fun c=>y c*entR m i c)=D*right.getD i 0)(g:k<n):l.getD k 0*D=y k*b:=by
 have j:=Ic e p a o h g;unfold x6 at d;split at d;·cases d
 cases d;rw[D1,C2,dF g];simp only[bV,M0];unfold lT;generalize detN n (B6 m right k)=P at*;generalize detN n m=Q at*;split;·rw[show ((Q.natAbs:Nat):Int)=-Q by omega];grind
 .rw[show ((Q.natAbs:Nat):Int)=Q by omega];grind
def jC(np:Nat)(z:y0):List Nat:=(List.range np).filter fun i=>!decide (i∈z)
def Ig(np:Nat)(z:y0):Asc 0 np (jC np z):=by have:=KU (fun i=>!decide (i∈z)) np 0;rw[m']at this;unfold jC;rw[List.range_eq_range'];exact this
def MH(es:aF)(z t:y0):∀(ws:L')(k:Nat),proofRows es z t k ws=((List.range' k ws.length).filter fun i=>!decide (i∈z)).map fun i=>A8 es t i (ws.getD (i-k) 0)
 |[],k=>by simp[proofRows]|w::ws,k=>by
  have a:=MH es z t ws (k+1);have e:((List.range' (k+1) ws.length).filter fun i=>!decide (i∈z)).map (fun i=>A8 es t i (ws.getD (i-(k+1)) 0))=((List.range' (k+1) ws.length).filter fun i=>!decide (i∈z)).map fun i=>A8 es t i ((w::ws).getD (i-k) 0):=by refine kH fun i r=>?_;have:=(List.mem_range'_1.1 (eC.1 r).1).1;obtain⟨j,rfl⟩:∃j,i=k+1+j:=⟨i-(k+1),Qa⟩;rw[show k+1+j-(k+1)=j by omega,show k+1+j-k=j+1 by omega,hW]
  unfold proofRows;rw[y',r6,cJ];by_cases h:k∈z;·rw[Zde h,q' (by simp[h]),a,e]
  .rw[q' h,Zde (by simp[h]),M1,a,e,kW,r1]
def Ih{xs:aF} {ps t:y0} {d:aC} (e:ps.length=t.length+1)(b:ps.length<=4)(h:Z0 (ps.map fun i=>A8 xs t i (d i)) none≠0):detN ps.length (sysM xs ps t)≠0:=by
 intro j;apply h;rw[yQ _ _ (by simp[sysM];omega) (fun B r=>by
  rcases ZBq.1 r with rfl|r;·simp
  .obtain⟨a,-,rfl⟩:=b3.1 r;simp)]at j;clear h;rcases ps with _|⟨E,_|⟨F,_|⟨G,_|⟨H,_|⟨I,ps⟩⟩⟩⟩⟩;·simp at e
 .rcases t with _|⟨s,t⟩;·simp[NP,sumN,sgnN,sysM,entR]at j
  .simp at e
 .rcases t with _|⟨s,_|⟨u,t⟩⟩;·simp at e
  .simp[NP,sumN,sgnN,sysM,entR,List.replicate]at j;simp[Z0,detP2,d2,colF,entR,A8];unfold coX at j;grind
  .simp at e
 .rcases t with _|⟨s,_|⟨u,_|⟨C,t⟩⟩⟩;·simp at e
  .simp at e
  .simp[NP,sumN,sgnN,sysM,entR,List.replicate]at j;simp[Z0,detP3,d3,d2,colF,entR,A8];unfold coX at j;grind
  .simp at e
 .rcases t with _|⟨s,_|⟨u,_|⟨C,_|⟨J,t⟩⟩⟩⟩;·simp at e
  .simp at e
  .simp at e
  .simp[NP,sumN,sgnN,sysM,entR,List.replicate]at j;simp[Z0,detP4,d4,d3,d2,colF,entR,A8];unfold coX at j;grind
  .simp at e
 .simp at b
def MI(p:bR)(f:aC):∀(l:y0),(∀i∈l,p i=false->f i=0)->((l.filter p).map f).sum=(l.map f).sum
 |[],_=>rfl|x::l,h=>by
  have a:=MI p f l fun i j=>h i (by simp[j]);rw[cJ];by_cases e:p x=true;·rw[Zde e,M1,M1,aS,aS,a]
  .rw[q' e,M1,aS,a,h x Qd (by simpa using e)];omega
def MJ(f:aC):∀n,sumN n f=((List.range n).map f).sum|0=>rfl|n+1=>by rw[cO,x0,List.sum_append,<-MJ f n];simp[sumN]
def MK(g:aC):∀l:List Nat,sumN l.length (fun j=>g (l.getD j 0))=(l.map g).sum|[]=>rfl|x::l=>by rw[y',iV];simp only[r1,hW,M1,aS];rw[MK g l]
def Ii{np:Nat} {z:y0} {f:aC} (h:∀i∈z,f i=0):sumN (jC np z).length (fun j=>f ((jC np z).getD j 0))=sumN np f:=by rw[MK,MJ];unfold jC;refine MI _ _ _ fun i e a=>h i ?_;simpa using a
def Ij{np:Nat} {z:y0} (b:Asc 0 np z):(jC np z).length+z.length=np:=by
 have s:∀(n a:Nat)(z:y0),Asc a (a+n) z->((List.range' a n).filter fun i=>!decide (i∈z)).length+z.length=n:=by intro n;induction n with
  |zero=>intro a z b;cases z with
   |nil=>rfl|cons x z=>have:=b.1;have:=b.2.1;omega
  |succ n ih=>
   intro a z b;rw[r6,cJ];by_cases j:a∈z;·rw[q' (by simp[j])];cases z with
    |nil=>cases j|cons x z=>
     obtain rfl:x=a:=by
      rcases ZBq.1 j with h|h;·exact h.symm
      .have:=(Asc.lt b.2.2 a h).1;have:=b.1;omega
     have u:=ih (x+1) z (by have:=b.2.2;rwa [show x+(n+1)=x+1+n by omega]at this);have B:(List.range' (x+1) n).filter (fun i=>!decide (i∈x::z))=(List.range' (x+1) n).filter fun i=>!decide (i∈z):=by
      refine List.filter_congr fun i C=>?_;have:=(List.mem_range'_1.1 C).1;have r:i≠x:=Qa
      simp[r]
     rw[B,y'];omega
   .rw[Zde (by simp[j]),y'];have u:=ih (a+1) z (by cases z with
     |nil=>trivial|cons x z=>have E:a≠x:=fun e=>j (by simp[e]);have F:=b.1;refine⟨Qa,by have:=b.2.1;omega,by have:=b.2.2;rwa [show a+(n+1)=a+1+n by omega]at this⟩);omega
 have:=s np 0 z (by rwa [m']);unfold jC;rw[List.range_eq_range'];exact this
def ML(np:Nat):∀{l:y0} {a b:Nat},Asc a b l->Asc (a-np) (b-np) (tightL np l)
 |[],_,_,_=>trivial|x::l,a,b,h=>by
  have e:=ML np h.2.2;unfold tightL at e |-;rw[cJ];have j:=h.1;have r:=h.2.1;by_cases i:np<=x;·rw[Zde (by simpa using i),M1];exact⟨Qa,Qa,by rwa [show x+1-np=x-np+1 by omega]at e⟩
  .rw[q' (by simpa using i)];exact Asc.mono Qa e
variable {np:Nat} {es:e6} {den:Int} {m l:L'} {c:Int×List Int}
def MM(np:Nat)(ps:y0)(l:L')(b:ps.Nodup)(r:∀p∈ps,p<np):∀q,q<=ps.length->∀j,j<q->(spP np ps l q).getD (ps.getD j 0) 0=l.getD j 0
 |0,_,j,hj=>by omega|q+1,hq,j,hj=>by
  have a:∀i,i<ps.length->ps.getD i 0∈ps:=fun i B=>by rw[D1,h' B];exact D2 _
  have s:=r _ (a j Qa);have C:=r _ (a q Qa);unfold spP;rw[D1,dC];by_cases e:j=q;·subst e;rw[Zde rfl,Zde (by rw[mK];exact s)];rfl
  .have u:ps.getD q 0≠ps.getD j 0:=fun h=>e (by rw[D1,D1,h' (show q<ps.length by omega),h' (show j<ps.length by omega)]at h;exact((List.getElem_inj b).1 h).symm);rw[q' u,<-D1];exact MM np ps l b r q Qa j Qa
def MN(np:Nat)(ps:y0)(l:L')(i:Nat)(b:i∉ps):∀q,q<=ps.length->(spP np ps l q).getD i 0=0
 |0,_=>by unfold spP;rw[D1,gH];split<;>rfl|q+1,hq=>by
  have a:ps.getD q 0∈ps:=by rw[D1,h' Qa];exact D2 _
  unfold spP;rw[D1,dC,q' (fun h=>b (by rw[<-h];exact a)),<-D1];exact MN np ps l i b q Qa
structure CornR (np:Nat)(es:e6)(c:Int×List Int):Prop where
 mix:MixR np c.1 c.2
 dK:c.1<=3840000
 per:∀x∈es,dotL x.co c.2<=x.mo*c.1
def Ik(h:(F2 np es den m).2=0):MixR np den m/\∀x∈es,dotL x.co m<=x.mo*den:=by
 unfold F2 at h;by_cases a:eF np den m=0;case neg=>rw[Zde a]at h;exact absurd h a
 rw[q' (by simpa using a)]at h;refine⟨sR a,fun x u=>?_⟩;obtain⟨i,s⟩:=r2.1 u;cases e:l8 es den m with|some j=>rw[e]at h;cases h|none=>unfold l8 at e;rw[List.find?_eq_none]at e;have r:=e i (w5.2 (p1.1 s).1);unfold fM at r;rw[s]at r;simpa using r
def Il(h:MixR np den m)(b:∀x∈es,dotL x.co m<=x.mo*den):(F2 np es den m).2=0:=by
 have e:eF np den m=0:=by unfold eF;rw[q' (by rw[h.len];simp),q' (by rw[(dB).2 ⟨h.d1,h.dK⟩];simp),q' ?_,q' (by rw[h.sum];simp)];rw[Bool.not_eq_true,bY];intro x i;rw[(dB).2 (h.nn x i)];simp
 unfold F2;rw[q' (by rw[e];simp),sQ];intro q a;unfold fM;rw[h' a];have:=b _ (D2 a);simpa using this
def F':c∈P1 np es↔∃k,k<min (es.length+1) np/\∃ps∈cmb 0 np (k+1),∃ts∈cmb 0 es.length k,c∈A' np es ps ts:=by unfold P1 kP L2 kE;simp only[rY,w5]
def vJ(hR:RightE es np)(b:np<=4)(h:c∈P1 np es):CornR np es c:=by obtain⟨k,H,ps,i,ts,F,a⟩:=F'.1 h;have C:=(yP i).1;unfold A' at a;cases e:x6 ps.length (sysM (exs es) ps ts) (NB (exs es) ts)with|none=>rw[e]at a;simp[rE]at a|some q=>
  obtain⟨l,den⟩:=q;rw[e]at a;simp only[rE]at a;split at a;case isFalse=>cases a
  rename_i r;rw[y2]at a;subst a;obtain⟨s,u⟩:=Ik r;refine⟨s,?_,u⟩;unfold x6 at e;split at e;·cases e
  cases e;have G:=a8 ps.length (sysM (exs es) ps ts) Qa fun j E=>(pT hR j E).2;have B:∀n,n<=4->bdN n<=3840000:=Qc
  have:=B ps.length Qa;omega
def Im(a:L')(d e:Int):∀(c m:L'),c.length=m.length->(∀i,i<m.length->c.getD i 0*d=m.getD i 0*e)->dotL a c*d=dotL a m*e:=by induction a with|nil=>intro c m _ _;simp[dotL]|cons x a ih=>intro c m j h;cases c with
  |nil=>cases m with
   |nil=>simp[dotL]|cons y m=>cases j
  |cons z c=>cases m with
   |nil=>cases j|cons y m=>
    have r:=h 0 Qd;have u:=ih c m (by simpa using j) fun i s=>by have:=h (i+1) (by simpa using s);simpa using this
    simp only[r1]at r;simp only[dotL];grind
def MO(d e:Int):∀(c m:L'),c.length=m.length->(∀i,i<m.length->c.getD i 0*d=m.getD i 0*e)->c.sum*d=m.sum*e
 |[],[],_,_=>by simp|[],_::_,h,_=>by cases h|_::_,[],h,_=>by cases h|z::c,y::m,hl,h=>by
  have a:=h 0 Qd;have r:=MO d e c m (by simpa using hl) fun i j=>by have:=h (i+1) (by simpa using j);simpa using this
  simp only[r1]at a;simp only[aS];grind
def Io{x:Int} (h:x∈l):∃i,i<l.length/\l.getD i 0=x:=by obtain⟨i,a⟩:=r2.1 h;exact⟨i,(p1.1 a).1,by rw[D1,a];rfl⟩
def Ip(h:∀x∈l,0<=x)(i:Nat):0<=l.getD i 0:=by rw[D1];cases a:l[i]? with|none=>exact rP _|some x=>exact h x (k3 a)
variable {c np:Nat} {es:e6} {ws m:L'} {d:Int} {p:Prf}
def MP:∀{m:L'},(∀x∈m,0<=x)->∀x∈m,x<=m.sum
 |[],_,x,e=>by cases e|y::m,h,x,e=>by
  have i:=h y Qd;have j:0<=m.sum:=by
   have:∀l:List Int,(∀x∈l,0<=x)->0<=l.sum:=fun l=>by induction l with|nil=>intro _;simp|cons a l ih=>intro h;have:=h a Qd;have:=ih fun x e=>h x (by simp[e]);simp only[aS];omega
   exact this m fun x e=>h x (by simp[e])
  rw[aS];rcases ZBq.1 e with rfl|e;·omega
  .have:=MP (fun x e=>h x (by simp[e])) x e;omega
def Iq(xs:aF)(ps t:y0)(a:c<ps.length):entR (sysM xs ps t) 0 c=1:=by unfold Go.Proofs.entR sysM;rw[r1,D1,gH,Zde a];rfl
def Ir(xs:aF) (ps t:y0) {r:Nat} (e:r<t.length) (a:c<ps.length):entR (sysM xs ps t) (r+1) c=coX xs (t.getD r 0) (ps.getD c 0):=by unfold Go.Proofs.entR sysM;rw[hW,D1 (l:=List.map _ t),C2,h' e];simp only[bV,M0];rw[D1 (l:=List.map _ ps),C2,h' a];simp only[bV,M0];rw[D1 (l:=t),h' e,D1 (l:=ps),h' a];rfl
def Is{np:Nat} {z:y0} {i:Nat}:i∈jC np z↔i<np/\i∉z:=by unfold jC;rw[eC,w5];simp
def GA(hR:RightE es np)(h1:1<=np)(h4:np<=4)(aO:ws.length=np)(h:solvedL np (exs es) ws=some (m,d,p)):∃c∈P1 np es,∀a,dotL a c.2*d=dotL a m*c.1:=by
 obtain⟨l,o,M,q⟩:=iS h;have s:Asc 0 (np+(exs es).length) l:=by have:=sM _ _ _ l o;rwa [m']at this
 rw[Z7]at o s;obtain⟨z1,z2,t1,t2,X⟩:=H' h1 o;have Z:∀x∈exs es,x.1.length=np:=fun x b=>by obtain⟨y,hy,rfl⟩:=b3.1 b;exact(hR.co y hy).1
 have e:=lB q h1 Qa Z z1 (fun i H=>by rw[Z7];exact t1 i H) X;have aI:=vG np s;have W:Asc 0 es.length (tightL np l):=by have:=ML np s;rwa [Nat.zero_sub,FB]at this
 obtain⟨z,N⟩:=Qu (zerosL np l);obtain⟨t,ht⟩:=Qu (tightL np l);rw[N]at M q e aI z1 z2 X;rw[ht]at M q e W t1 t2 X;clear N ht q h o s;have aM:=Ij aI;have V:=Ig np z;have U:(jC np z).length=t.length+1:=Qa
 have T:=@Is np z;have F:=@Ii np z;have C:Z0 (proofRows (exs es) z t 0 ws) none≠0:=fun h0=>by
  unfold c7 at M;have:C0 (proofRows (exs es) z t 0 ws)=none:=by unfold C0;rw[Zde h0]
  rw[this]at M;cases M
 rw[MH,aO,<-List.range_eq_range']at C;have aB:=Ih (xs:=exs es) (ps:=jC np z) (t:=t) U Qa C;obtain⟨ps,O⟩:=Qu (jC np z);rw[O]at aM V U T F aB;clear C O M;obtain⟨B,den,hs⟩:∃B den,x6 ps.length (sysM (exs es) ps t) (NB (exs es) t)=some (B,den):=by unfold x6;rw[q' aB];exact⟨_,_,rfl⟩
 obtain⟨aS,aQ,aR⟩:=F5 hs Qa fun Y Q=>(pT hR Y Q).2;have G:∀f:Nat->Int,∀i∈z,f i*m.getD i 0=0:=fun f i H=>by rw[e.zero i H,Int.mul_zero]
 have aN:∀k,k<ps.length->B.getD k 0*d=m.getD (ps.getD k 0) 0*den:=fun k hk=>by
  refine Ie (y:=fun c=>m.getD (ps.getD c 0) 0) hs (by simp[sysM];omega) (fun Y Q=>(pT hR Y Q).1) Qa Qa (fun i H=>?_) hk;rcases i with _|r
  .have P:sumN ps.length (fun c=>m.getD (ps.getD c 0) 0*entR (sysM (exs es) ps t) 0 c)=sumN ps.length fun j=>(fun i=>1*m.getD i 0) (ps.getD j 0):=aT fun c hc=>by rw[Iq _ _ _ hc];grind
   rw[P,F (f:=fun i=>1*m.getD i 0) (G fun _=>1)];have e2:sumN np (fun i=>1*m.getD i 0)=m.sum:=by rw[<-e.len,<-mX];exact aT fun i _=>Qa
   rw[e2,e.sum];simp[NB]
  .have Q:r<t.length:=Qa
   have aH:t.getD r 0∈t:=by rw[D1,h' Q];exact D2 _
   have I:=t1 _ aH;have K:(exs es)[t.getD r 0]?=some ((exs es)[t.getD r 0]'(by rw[Z7];exact I)):=h' _;have aP:=k3 K;have J:=e.tight _ aH _ K;have aA:∀i,coX (exs es) (t.getD r 0) i=((exs es)[t.getD r 0]'(by rw[Z7];exact I)).1.getD i 0:=fun i=>by unfold coX;rw[D1 (l:=exs es),K];rfl
   have aE:(NB (exs es) t).getD (r+1) 0=((exs es)[t.getD r 0]'(by rw[Z7];exact I)).2:=by
    unfold NB;rw[hW,D1,C2,h' Q];simp only[bV,M0];unfold moX;have:t[r]=t.getD r 0:=by rw[D1,h' Q];rfl
    rw[this,D1 (l:=exs es),K];rfl
   rw[aE];generalize (exs es)[t.getD r 0]'(by rw[Z7];exact I)=x at*;have P:sumN ps.length (fun c=>m.getD (ps.getD c 0) 0*entR (sysM (exs es) ps t) (r+1) c)=sumN ps.length fun j=>(fun i=>x.1.getD i 0*m.getD i 0) (ps.getD j 0):=aT fun c hc=>by rw[Ir _ _ _ Q hc,aA];grind
   rw[P,F (f:=fun i=>x.1.getD i 0*m.getD i 0) (G fun i=>x.1.getD i 0),<-e.len,jY _ _ (by rw[Z x aP,e.len];exact sW _),J];grind
 have aL:∀p∈ps,p<np:=fun p M=>(T.1 M).1;have aK:=V.nodup;have E:∀i,i<m.length->(spP np ps B ps.length).getD i 0*d=m.getD i 0*den:=fun i H=>by
  rw[e.len]at H;by_cases S:i∈ps
  .obtain⟨j,hj⟩:=r2.1 S;have aC:=(p1.1 hj).1;have aJ:ps.getD j 0=i:=by rw[D1,hj];rfl
   rw[<-aJ,MM np ps B aK aL ps.length (sW _) j aC];exact aN j aC
  .rw[MN np ps B i S _ (sW _)];have:i∈z:=by apply fX;intro N;exact S (T.2 ⟨H,N⟩)
   rw[e.zero i this];omega
 have u:(spP np ps B ps.length).length=m.length:=by rw[mK,e.len]
 have L:∀a,dotL a (spP np ps B ps.length)*d=dotL a m*den:=fun a=>Im a d den _ _ u E;have R:=e.den;have aG:=MO d den _ _ u E;rw[e.sum]at aG;have aD:MixR np den (spP np ps B ps.length):=by
  refine⟨mK _ _ _ _,Qa,Qa,fun x b=>?_,?_⟩
  .obtain⟨i,H,rfl⟩:=Io b;have g:=E i (by rw[<-u];exact H);have h6:=Ip e.nn i;have h7:m.getD i 0<=d:=by rw[<-e.sum,D1,h' (by rw[<-u];exact H)];exact MP e.nn _ (D2 _)
   generalize (spP np ps B ps.length).getD i 0=x at*;generalize m.getD i 0=y at*;have h8:0<=y*den:=eI h6 Qa;have h9:y*den<=d*den:=W5 h7 Qa;constructor;·exact W2 (a:=d) Qa R
   .exact W2 (a:=d) (by rw[g,eM den];exact h9) R
  .exact FY (a:=d) Qa (by rw[aG];exact eM _ _)
 have aF:∀x∈es,dotL x.co (spP np ps B ps.length)<=x.mo*den:=fun x b=>by
  have g:=e.per _ (b3.2 ⟨x,b,rfl⟩:En.ex x∈exs es);have h6:=L x.co;simp only[En.ex]at g;refine W2 (a:=d) ?_ R;rw[h6];have h7:dotL x.co m*den<=x.mo*d*den:=W5 g Qa;have h8:x.mo*den*d=x.mo*d*den:=Qn
  omega
 refine⟨(den,spP np ps B ps.length),F'.2 ⟨t.length,?_,ps,?_,t,?_,?_⟩,L⟩;·have:=KV W;omega
 .have:=uD 0 np ps (by rw[m'];exact V);rwa [U]at this
 .exact uD 0 es.length t (by rw[m'];exact W)
 .unfold A';rw[hs];simp only[rE];rw[Zde (Il aD aF)];exact y2.2 rfl
def MQ(hR:RightE es np)(u:1<=np)(b:np<=4)(e:ws.length=np):P1 np es=[]↔solvedL np (exs es) ws=none:=by
 constructor;·intro j;cases h:solvedL np (exs es) ws with
  |none=>rfl|some r=>obtain⟨m,d,p⟩:=r;obtain⟨c,a,-⟩:=GA hR u b e h;rw[j]at a;cases a
 .intro h;cases j:P1 np es with|nil=>rfl|cons c l=>have a:=vJ hR b (c:=c) (by rw[j];simp);obtain⟨r,B⟩:=Gb (np:=np) (es:=exs es) (ws:=ws) (m:=c.2) (d:=c.1) u b e a.mix.len (fun x i=>(a.mix.nn x i).1) a.mix.sum (by have:=a.mix.d1;omega) (fun x i=>by obtain⟨y,s,rfl⟩:=b3.1 i;exact(hR.co y s).1) (fun x i=>by obtain⟨y,s,rfl⟩:=b3.1 i;exact a.per y s);rw[h]at B;cases B
def lQ(ws:L')(a b:Int×List Int):Int×List Int:=if dotL ws b.2*a.1<dotL ws a.2*b.1 then b else a
def leastC(ws:L')(c:Int×List Int)(l:List (Int×List Int)):Int×List Int:=l.foldl (lQ ws) c
def pU(ws:L'):∀(l:List (Int×List Int))(c:Int×List Int),(∀x∈c::l,0<x.1)->leastC ws c l∈c::l/\∀x∈c::l,dotL ws (leastC ws c l).2*x.1<=dotL ws x.2*(leastC ws c l).1
 |[],c,_=>⟨by simp[leastC],fun x i=>by simp[leastC]at i |-;subst i;exact rP _⟩|y::l,c,h=>by
  have E:lQ ws c y=c∨lQ ws c y=y:=by unfold lQ;split<;>simp
  have K:=h c Qd;have R:=h y Qd;obtain⟨L,F⟩:=pU ws l (lQ ws c y) (fun x i=>by
   rcases ZBq.1 i with rfl|i;·rcases E with e|e<;>(rw[e];assumption)
   .exact h x (by simp[i]));have M:leastC ws c (y::l)=leastC ws (lQ ws c y) l:=rfl;rw[M];have H:leastC ws (lQ ws c y) l∈c::y::l:=by
   rcases ZBq.1 L with e|e;·rw[e];rcases E with e|e<;>(rw[e];simp)
   .simp[e]
  have X:=h _ H;refine⟨H,fun x i=>?_⟩;have j:=F (lQ ws c y) Qd;generalize leastC ws (lQ ws c y) l=g at*;have C:∀a b:Int×List Int,0<a.1->0<b.1->dotL ws g.2*a.1<=dotL ws a.2*g.1->dotL ws a.2*b.1<=dotL ws b.2*a.1->dotL ws g.2*b.1<=dotL ws b.2*g.1:=fun a b O Q I J=>by
   generalize dotL ws g.2=G at*;generalize dotL ws a.2=A at*;generalize dotL ws b.2=B at*;have S:G*a.1*b.1<=A*g.1*b.1:=W5 I Qa;have T:A*b.1*g.1<=B*a.1*g.1:=W5 J Qa;refine W2 (a:=a.1) ?_ O;have U:G*b.1*a.1=G*a.1*b.1:=Qn
   have V:B*g.1*a.1=B*a.1*g.1:=Qn
   have W:A*g.1*b.1=A*b.1*g.1:=Qn
   omega
  have s:dotL ws (lQ ws c y).2*c.1<=dotL ws c.2*(lQ ws c y).1/\dotL ws (lQ ws c y).2*y.1<=dotL ws y.2*(lQ ws c y).1:=by
   unfold lQ;split;·rename_i u;exact⟨gC u,rP _⟩
   .rename_i u;exact⟨rP _,Qa⟩
  have r:0<(lQ ws c y).1:=by rcases E with e|e<;>(rw[e];assumption)
  rcases ZBq.1 i with rfl|i;·exact C _ _ r K j s.1
  rcases ZBq.1 i with rfl|i;·exact C _ _ r R j s.2
  .exact F x (by simp[i])
def It(hR:RightE es np)(Q:1<=np)(f:np<=4)(e:ws.length=np)(h:solvedL np (exs es) ws=some (m,d,p)) {c:Int×List Int} {l:List (Int×List Int)} (R:P1 np es=c::l):dotL ws (leastC ws c l).2*d=dotL ws m*(leastC ws c l).1:=by
 have s:∀x∈c::l,CornR np es x:=fun x j=>vJ hR f (by rw[R];exact j);obtain⟨T,U⟩:=pU ws l c fun x j=>by have:=(s x j).mix.d1;omega
 obtain⟨b,E,F⟩:=GA hR Q f e h;rw[R]at E;have u:=lF hR Q Qa e h;have r:=s _ T;have V:=U b E;have z:=F ws;have C:=s b E;generalize leastC ws c l=g at*;have H:∀x∈exs es,x.1.length=g.2.length:=fun x j=>by obtain⟨y,K,rfl⟩:=b3.1 j;rw[r.mix.len];exact(hR.co y K).1
 have t:=T0 (es:=exs es) (ws:=ws) (W:=p.W) (m:=g.2) (den:=p.den) (lev:=p.lev) (d:=g.1) H (by rw[e,r.mix.len]) (fun x j=>(r.mix.nn x j).1) r.mix.sum u.nn (fun k q=>u.lev k (by rw[e,<-r.mix.len];exact q)) (fun i x w j _ _=>by obtain⟨y,K,rfl⟩:=b3.1 (k3 j);exact r.per y K);have J:=u.same;have Y:=u.d0;have I:=u.den;have X:=C.mix.d1;have Z:=r.mix.d1;generalize dotL ws g.2=G at*;generalize dotL ws m=M at*;generalize dotL ws b.2=B at*;generalize p.lev-spentL (exs es) p.W=S at*;have L:G*d<=M*g.1:=by
  refine W2 (a:=b.1) ?_ Qa;have:=W5 V (show 0<=d by omega);have L:G*b.1*d=G*d*b.1:=Qn
  have O:B*g.1*d=M*g.1*b.1:=Qn
  omega
 have O:M*g.1<=G*d:=by
  refine W2 (a:=p.den) ?_ I;have:=W5 t (show 0<=d by omega);have L:S*g.1*d=M*g.1*p.den:=Qn
  have O:G*p.den*d=G*d*p.den:=Qn
  omega
 omega
end Go.Proofs
namespace Go.Proofs
open Tryz
open Go.RowKit
def HB(g:Nat)(l:L'):Nat:=l.foldl (fun g x=>Nat.gcd g x.natAbs) g
def nX(a b:Int)(W:L'):Bool:=decide (HB (Nat.gcd a.natAbs b.natAbs) W=1)
def Iu(g:Nat) {W:L'} {k:Nat} (a:k<W.length):HB g (W.take (k+1))=Nat.gcd (HB g (W.take k)) (W.getD k 0).natAbs:=by unfold HB;rw[w9,List.foldl_append,h' a,D1,h' a];rfl
def MR{K:Nat}:∀(W:L')(g:Nat),g<=K->ZK K W->HB g W<=K
 |[],g,hg,_=>hg|x::W,g,hg,hW=>by
  refine MR W _ ?_ fun y e=>hW y (by simp[e]);show Nat.gcd g x.natAbs<=K;by_cases a:g=0;·subst a;rw[L1];exact hW x Qd
  .exact h9 (Nat.gcd_le_left _ Qa) hg
def Iv(A:i')(c n:Nat)(d f:Int)(W:L')(w:World)(Y:At 1 Zc w A W)(V:W.length=n)(hl:n<=1000000)(p:d.natAbs<=1000000000000)(l:f.natAbs<=1000000000000)(m:ZK 1000000000000 W):Calls prog 14 #[.agg #[d,f,.slice A n c]] w (Qt w (nX d f W)):=by
 have t:=w0 fun x (Z:QB w x) k (F:k<n)=>D9 (Y.below Z) (k:=k) (by rw[V];exact F);have H:=w0 fun x=>yB d f x Qa Qa;obtain⟨r,s⟩:=Qu (Nat.gcd d.natAbs f.natAbs);have u:r<=1000000000000:=by
  rw[<-s];by_cases z:d.natAbs=0;·rw[z,L1];exact l
  .exact h9 (Nat.gcd_le_left _ Qa) p
 rw[s]at H;have S:=w0 fun k (F:k<n)=>Iu r (W:=W) (k:=k) (by rw[V];exact F);have R:=w0 fun k=>MR (K:=1000000000000) (W.take k) r u fun y hy=>m y (List.take_subset _ _ hy);have N:=w0 fun k (F:k<n) x=>(by have U:=R.out k;have h:=yB (HB r (W.take k):Int) (W.getD k 0) x Qa (by have:=m.get k;omega);rw[Int.natAbs_natCast,<-S.out k F]at h;exact h:Calls prog 37 #[(HB r (W.take k):Nat),(W.getD k 0)] x (Qt x (HB r (W.take (k+1)):Nat)));have J:=w0 (show W.take n=W by rw[<-V,x1]);unfold nX;rw[s];obtain⟨B,X⟩:=Qu (decide (HB r W=1));rw[X];have C:=w0 X;clear Y V p l m s S R u X;go_enter func14,ntmps14;go_wp2_with (go_at_call 37;refine(H.out _).mono ?_;rintro e w2 ⟨rfl,L⟩;(have a:=via (by go_grown:QB w (w.alloc (.cells #[d,f,.slice A n c] 32))) L);(have G:=Zx L (show (w.alloc (.cells #[d,f,.slice A n c] 32)).heap[w.heap.size]?=some (.cells #[d,f,.slice A n c] 32)by exact Qs)));go_loopw [3,4] (fun g i wr=>∃k:Nat,k<=n/\g=.int .i64 (HB r (W.take k):Nat)/\i=.int .i64 k/\wr.heap[w.heap.size]?=some (.cells #[d,f,.slice A n c] 32)/\QB w wr)(fun _ i _=>n-(intOf i).toNat);case atStart=>exact⟨0,k2 _,rfl,rfl,G,a⟩
 case round=>
  clear G a;obtain⟨k,F,rfl,rfl,G,a⟩:=hrel;have D:=bk3 G;by_cases Q:k<n
  .have aA:(k:Int)<(n:Int):=Qa
   obtain⟨b,o,rfl,Z,q⟩:=t.out wr a k Q;have I:=w0 fun x=>N.out k Q x;obtain⟨v,l⟩:=Qu (W.getD k 0);obtain⟨T,j⟩:=Qu (HB r (W.take k));obtain⟨g2,E⟩:=Qu (HB r (W.take (k+1)));rw[l,j,E]at I;rw[l]at q;rw[j];have O:=w0 E;clear l j E;go_wp2_with (go_at_call 37;refine(I.out _).mono ?_;rintro e w3 ⟨rfl,M⟩);go_roundw;case rel=>exact⟨k+1,Qa,by rw[O.out],Qj,Zx M G,via a M⟩
   case measure=>exact Qv
  .obtain rfl:n=k:=Qa
   rw[J.out];obtain⟨T,j⟩:=Qu (HB r W);rw[j]at C |-;clear j;by_cases U:T=1
   .obtain rfl:true=B:=by rw[<-C.out,U];rfl
    subst U;go_wp2;go_ret;exact⟨rfl,a⟩
   .obtain rfl:false=B:=by rw[<-C.out,decide_eq_false U]
    have h2:((T:Int)==1)=false:=Qk
    have h3:¬((T:Int)=1):=Qa
    go_wp2;go_ret;exact⟨rfl,a⟩
end Go.Proofs
namespace Go.Proofs
open Go.RowKit
def yR(a:Int)(m:L'):Bool:=decide (HB a.natAbs m=1)
def yS(n d:Int):Bool:=decide (0<d)&&(Nat.gcd n.natAbs d.natAbs==1)
variable {np:Nat} {xs:aF} {z t:y0} {m ws:L'} {d n b:Int} {p:Prf} {es:e6}
def yT:∀(l:L')(g:Nat),gcdL g l=HB g l|[],g=>rfl|x::l,g=>yT l _
def MS(k:Nat):∀(l:L') (a:Nat),gcdL (k*a) (l.map ((k:Int)*·))=k*gcdL a l
 |[],a=>rfl|x::l,a=>by
  have e:(((k:Nat):Int)*x).natAbs=k*x.natAbs:=by rw[eQ,Int.natAbs_natCast]
  show gcdL (Nat.gcd (k*a) (((k:Nat):Int)*x).natAbs) _=k*gcdL (Nat.gcd a x.natAbs) l;rw[e,Nat.gcd_mul_left];exact MS k l _
def sX{l:L'} (c:0<gcdL 0 l):gcdL 0 (l.map (· / (gcdL 0 l:Int)))=1:=by
 have i:=(D5 l 0).2;generalize j:gcdL 0 l=g at*;have h:=MS g (l.map (· / (g:Int))) 0;have e:(l.map (· / (g:Int))).map ((g:Int)*·)=l:=by
  rw[dZ];conv=>rhs;rw[<-kG l]
  refine kH fun x r=>?_;show (g:Int)*(x / (g:Int))=x;exact jL (i x r)
 rw[e,Nat.mul_zero,j]at h;have a:g*1=g*gcdL 0 (l.map (· / (g:Int))):=by rw[w8];exact h
 exact(Nat.eq_of_mul_eq_mul_left c a).symm
def Iw(h:A6 np xs z t=some (m,d))(i:0<d):yR d m=true:=by
 unfold A6 at h;split at h;·cases h
 rename_i l c r;split at h;·cases h
 split at h;·cases h
 obtain⟨rfl,rfl⟩:_/\_:=by simpa using h
 have a:c≠0:=fun j=>by rw[j]at i;simp at i
 have e:=sX (l:=c::l) (s4 c Qd a);unfold yR;rw[decide_eq_true_iff,<-yT];rw[M1]at e;simp only[gcdL,L1]at e |-;exact e
def Iy(h:c7 xs ws z t=some p)(i:0<p.den):nX p.den p.lev p.W=true:=by
 unfold c7 at h;split at h;·cases h
 rename_i l c u;split at h;·cases h
 dsimp only at h;split at h;case isFalse=>cases h
 obtain⟨W,r⟩:=Qu (putW l 0 t (List.replicate xs.length 0));obtain⟨x,s⟩:=Qu (l.getD 0 0);rw[r,s]at h;cases h;have a:c≠0:=fun j=>by rw[j]at i;simp at i
 have e:=sX (l:=c::x::W) (s4 c Qd a);unfold nX;rw[decide_eq_true_iff,<-yT];rw[M1,M1]at e;simp only[gcdL,L1]at e |-;exact e
def MT(c:0<b):yS (n / lowG n b) (b / lowG n b)=true:=by obtain⟨i,j,h⟩:=eZ n b c;have a:=sX (l:=[n,b]) (s4 b Qd Qa);have e:((gcdL 0 [n,b]:Nat):Int)=lowG n b:=rfl;rw[e]at a;simp only[M1,N1,gcdL,L1]at a;unfold yS;rw[a];have:0<b / lowG n b:=rX c Qa h;simp[this]
def Iz{n' b':Int} (c:0<b)(a:0<b')(h:n*b'=n'*b):n / lowG n b=n' / lowG n' b'/\b / lowG n b=b' / lowG n' b':=by
 have e:=MT (n:=n) c;have i:=MT (n:=n') a;obtain⟨J,E,F⟩:=eZ n b c;obtain⟨L,H,I⟩:=eZ n' b' a;generalize lowG n b=g at*;generalize lowG n' b'=k at*;obtain⟨x,rfl⟩:=E;obtain⟨y,rfl⟩:=F;obtain⟨u,rfl⟩:=H;obtain⟨v,rfl⟩:=I;rw[PL _ Qa,PL _ Qa]at e;rw[PL _ Qa,PL _ Qa]at i;rw[PL _ Qa,PL _ Qa,PL _ Qa,PL _ Qa];unfold yS at e i;simp only[aY,h6,cZ]at e i;obtain⟨O,s⟩:=e;obtain⟨M,B⟩:=i;have j:x*v=u*y:=by
  have:(g*k)*(x*v)=(g*k)*(u*y):=Qn
  exact rO (Int.mul_ne_zero Qa Qa) this
 have r:x.natAbs*v.natAbs=u.natAbs*y.natAbs:=by rw[<-eQ,<-eQ,j]
 have C:y.natAbs∣v.natAbs:=(Nat.Coprime.symm s:Nat.Coprime y.natAbs x.natAbs).dvd_of_dvd_mul_left (by rw[r];exact Nat.dvd_mul_left _ _);have d2:v.natAbs∣y.natAbs:=(Nat.Coprime.symm B:Nat.Coprime v.natAbs u.natAbs).dvd_of_dvd_mul_left (by rw[<-r];exact Nat.dvd_mul_left _ _);have K:=Nat.dvd_antisymm C d2;have G:y=v:=Qa
 subst G;exact⟨FY Qa j,rfl⟩
structure Said (np:Nat)(es:e6)(ws m:L')(d:Int)(p:Prf):Prop where
 mix:MixR np d m
 per:(F2 np es d m).2=0
 low:yR d m=true
 plow:nX p.den p.lev p.W=true
 wt:WeightR es.length p.den p.lev p.W
 holds:bZ ws es p.den p.lev p.W=true
 same:(p.lev-spentL (exs es) p.W)*d=dotL ws m*p.den
def GB(hR:RightE es np)(s:1<=np)(f:np<=4)(e:ws.length=np)(B:ZK 400 ws)(h:solvedL np (exs es) ws=some (m,d,p)):Said np es ws m d p:=by
 obtain⟨a,-⟩:=Gm hR s Qa h;have j:=lF hR s Qa e h;have u:eF np d m=0:=by
  unfold F2 at a;by_cases r:eF np d m=0;·exact r
  .rw[Zde r]at a;exact absurd a r
 obtain⟨l,G,F,E⟩:=iS h;exact⟨sR u,a,Iw E j.d0,Iy F j.den,XZ hR s f e B h,s5.2 fun i C=>iD.2 (j.lev i C),j.same⟩
def Said.bound(h:Said np es ws m d p):PD ws es p.den p.lev p.W=(dotL ws m / lowG (dotL ws m) d,d / lowG (dotL ws m) d):=by unfold PD;rw[Zde h.holds];have:=Iz (n:=p.lev-spentL (exs es) p.W) (b:=p.den) (n':=dotL ws m) (b':=d) (by have:=h.wt.d1;omega) (by have:=h.mix.d1;omega) h.same;rw[this.1,this.2]
end Go.Proofs
namespace Go.Proofs
open Tryz
open Go.RowKit
def GC(pA eA:i')(pc ec B V:Nat)(d:e6)(w:World)(hR:RightE d B)(hE:h7 w eA d)(bG:d.length=V)(C:1<=B)(h4:B<=4):Calls prog 28 #[.agg #[.slice pA B pc,.slice eA V ec]] w fun e w'=>(∃A c,e=.returned (.slice A (P1 B d).length c)/\∃ys,nW w' A ys/\ys.map CoR.mx=P1 B d)/\QB w w':=by
 have iH:=hR.n8;have dY:=w0 fun(aT below:Nat)(W:World)(C:below<=8)(R:aT<=9)=>Hm aT below W C R;have gA:=w0 fun(hP tA:i')(c1 c2 m k0:Nat)(ps ts:y0)(W:World)(hb:QB w W)=>Hq pA eA hP tA pc ec B V c1 c2 m k0 d ps ts W hR (hE.below hb) bG;have fS:=w0 fun(A:i') (c:Nat) (den:Int) (m:L') (W:World) (hb:QB w W) (hM:At 1 Zc W A m) (hn:m.length=B)=>Gg pA eA A pc ec B V c B d den m W hR (hE.below hb) bG hM hn Qa Qa;obtain⟨i0,hi,gX,gY,cA⟩:=n9 Hw;have eX:=BD B Qa;have dU:=w0 fun(ps ts:y0)=>pT (ps:=ps) (ts:=ts) hR;have fZ:=w0 fun(ts:y0)=>Hv (ts:=ts) hR;have dB:=w0 fun k (hk:k<B)=>F3 B (w5.2 Qa) V (w5.2 Qa) k (w5.2 Qa);have eN:=w0 bG;have eO:=w0 (show ∀k,k<=V+1->k<=B->(¬k<=V∨¬k<B)->kP B d k=P1 B d from fun k C R h3=>by unfold P1;rw[bG];congr 1;omega);obtain⟨CL,cN⟩:=Qu ((P1 B d).length);rw[cN];have dK:=w0 cN;have hX:V<=8:=Qa
 clear hR hE bG cN;go_enter func28,ntmps28;go_wp2;go_loopw [3,4] (fun v3 i wr=>∃(k:Nat)(ys:List CoR),k<=V+1/\k<=B/\i=.int .i64 k/\Hid (CoOwn wr w.heap.size v3 ys/\ys.map CoR.mx=kP B d k/\ys.length<=112*k)/\wr.heap[w.heap.size]?=some (.cells #[.slice pA B pc,.slice eA V ec] 25)/\QB w wr)(fun _ i _=>B-(intOf i).toNat);case atStart=>exact⟨0,[],k2 _,k2 _,rfl,w0 ⟨CoOwn.nil _ _,rfl,k2 _⟩,Qs,Qi⟩
 case round=>
  obtain⟨wo,gQ⟩:∃wo,wo=wr:=⟨_,rfl⟩;subst gQ;obtain⟨k,ys,gE,gF,rfl,I,M0,cY⟩:=hrel;obtain⟨Z,s,rfl⟩:=Z3 I.out.1.own;obtain⟨Y,dD⟩:=Qu ys.length;have cI:=w0 dD;rw[dD]at I |-;have C0:=bk2 M0;have s0:=ZG M0;clear dD;by_cases aD:k<=V/\k<B;case neg=>
   have hf:=w0 (eO.out k gE gF Qa);obtain rfl:Y=CL:=by have C:=w6 List.length I.out.2.1;rw[sA,hf.out,dK.out,cI.out]at C;exact C
   by_cases iQ:k<=V
   .have eS:(k:Int)<=(V:Int):=Qa
    have eT:¬(k:Int)<(B:Int):=Qa
    clear aD eX;go_wp2;go_ret;exact⟨⟨_,⟨_,rfl⟩,ys,I.out.1.at_,by rw[I.out.2.1,hf.out]⟩,cY⟩
   .have eS:¬(k:Int)<=(V:Int):=Qa
    clear aD eX;go_wp2;go_ret;exact⟨⟨_,⟨_,rfl⟩,ys,I.out.1.at_,by rw[I.out.2.1,hf.out]⟩,cY⟩
  obtain⟨iP,gH⟩:=aD;have eS:(k:Int)<=(V:Int):=Qa
  have eT:(k:Int)<(B:Int):=Qa
  have iV:IntKind.i64.wrap ((k:Int)+1)=((k+1:Nat):Int):=by rw[B3 _ Qa];omega
  have bH:=w0 (dB.out k gH);have bV:=w0 fun W=>dY.out (k+1) B W Qa Qa;have bL:=w0 fun W=>dY.out k V W Qa Qa;obtain⟨eB,cF⟩:=Hu B (w5.2 Qa) V (w5.2 Qa) k (w5.2 Qa);obtain⟨P,aX⟩:=Qu (cmb 0 B (k+1));obtain⟨O,aZ⟩:=Qu (cmb 0 V k);rw[aX]at bV eB;rw[aZ]at bL cF;rw[aX,aZ]at bH;have cK:=w0 fun l (hl:l∈P)=>yP (n:=B) (k:=k+1) (by rw[aX];exact hl);have fK:=w0 fun l (hl:l∈O)=>yP (n:=V) (k:=k) (by rw[aZ];exact hl);have gG:=w0 (show kP B d (k+1)=kP B d k++P.flatMap fun ps=>kE B d ps O by rw[FZ];unfold L2;rw[aX,eN.out,aZ]);obtain⟨a,ha⟩:=Qu P.length;obtain⟨b,hb⟩:=Qu O.length;rw[ha]at bV bH eB;rw[hb]at bL bH cF;have dZ:=w0 ha;have eC:=w0 hb;have bP:=w0 fun r (e:(Value.slice Z Y s).ownBlock=some r)=>I.out.1.own.lt r e;clear aX aZ ha hb;go_wp2;refine p5 Qb ?_;refine v8 12 _ rfl rfl Qb Qb Qb Qb ?_;refine v8 11 _ rfl rfl Qb Qb Qb Qb ?_;simp only[sT,j0];apply yC w [5,10] (fun j=>[]) (fun j g=>if j=5 then .slice g.a1 a g.c1 else .slice g.a1 b g.c1)
   (fun j h x=>if j=5 then ∃aA,RowsOwn x wo.heap.size (.slice h.a1 a h.c1) aA/\aA.map IR.l=P.map ZO else ∃aB,RowsOwn x wo.heap.size (.slice h.a1 b h.c1) aB/\aB.map IR.l=O.map ZO);case hB=>kernel_rfl
  case hB'=>intro g;kernel_rfl
  case hS|hN|hD|hdn=>kernel_rfl
  case hw=>exact cY
  case hR=>
   intro j h x x' hr hb;by_cases e:j=5;·rw[Zde e]at hr |-;obtain⟨y,C,R⟩:=hr;exact⟨y,C.below hb,R⟩
   rw[q' e]at hr |-;obtain⟨y,C,R⟩:=hr;exact⟨y,C.below hb,R⟩
  case hq=>
   intro g u L cZ H eG;have N0:=Zx L M0;have D0:=bk2 N0;have z0:=ZG N0;clear N0;simp only[mixL,yieldsC,l5,n7,Nat.reduceAdd,Nat.reduceBEq,m',o7,sS,p',k7,nK,ZyJ,ZyI,r5,Nat.reduceEqDiff];repeat (go_big_quiet_step (fail))
   exact ZyG rfl
  case hind=>exact Qz
  case hmake=>
   intro j K o D g x t cX hdep;simp only[ZBq,ZBH,ZyH]at K;rcases K with rfl|rfl;·simp only[p0,B4,M3]at D;subst D;refine zA Qb ((bV.out x).mono ?_);rintro e x' ⟨⟨A9,c9,y,rfl,hO,hm⟩,bA⟩;exact⟨_,rfl,⟨{Gh.zero with a1:=A9,c1:=c9},rfl,y,hO.base t.size,hm⟩,bA⟩
   .simp only[p0,B4,M3]at D;subst D;refine zA Qb ((bL.out x).mono ?_);rintro e x' ⟨⟨A9,c9,y,rfl,hO,hm⟩,bA⟩;exact⟨_,rfl,⟨{Gh.zero with a1:=A9,c1:=c9},rfl,y,hO.base t.size,hm⟩,bA⟩
  intro g f aN bX bC;obtain⟨aA,aW,cV⟩:∃aA,RowsOwn f wo.heap.size (.slice (g 5).a1 a (g 5).c1) aA/\aA.map IR.l=P.map ZO:=aN 5 Qd;obtain⟨aB,aY,cW⟩:∃aB,RowsOwn f wo.heap.size (.slice (g 10).a1 b (g 10).c1) aB/\aB.map IR.l=O.map ZO:=aN 10 Qd;refine R3 (.slice (g 5).a1 a (g 5).c1) Qb ?_;refine R3 (.slice (g 10).a1 b (g 10).c1) Qb ?_;generalize (g 5).a1=A5 at aW |-;generalize (g 5).c1=c5 at aW |-;generalize (g 10).a1=A6 at aY |-;generalize (g 10).c1=c6 at aY |-;have dN:=w0 (show Z4 w f (.slice Z Y s) f from Z4.refl bC);have fG:=w0 fun(W:World)(h:Z4 w f (.slice Z Y s) W)=>aW.keep h fun r e=>(bP.out r e).2;have fH:=w0 fun(W:World)(h:Z4 w f (.slice Z Y s) W)=>aY.keep h fun r e=>(bP.out r e).2;have N0:=Zx bX M0;have fA:=w0 (show some w.heap.size≠(Value.slice Z Y s).ownBlock from fun e=>by obtain⟨_,iG,e1,C⟩:=yO I.out.1.own e.symm;rw[M0]at C;cases C);have eH:=w0 fun(W:World)(h:Z4 w f (.slice Z Y s) W)=>DY h N0 fA.out;have gP:=w0 fun(W:World)(h:Z4 w f (.slice Z Y s) W) i (hi:i<a)=>(by
   obtain⟨y,hy⟩:∃y,aA[i]?=some y:=⟨_,h' (by have C:=w6 List.length cV;rw[sA,sA]at C;have:=dZ.out;omega)⟩;have C:(aA.map IR.l)[i]?=some y.l:=by rw[C2,hy];rfl
   rw[cV,C2]at C;obtain⟨ps,bK,e⟩:=e'.1 C;obtain⟨R,h3⟩:=fG.out W h;obtain⟨G,o,hA,aD,hc⟩:=R i y hy;have h4:=hc 0 _ rfl;simp only[w8,w7]at h4;have h5:=h3 y (k3 hy);rw[<-e]at h4 h5;rw[x7,(cK.out ps (k3 bK)).1]at h4;exact⟨ps,y.A,y.c,G,o,bK,hA,aD,h4,h5,aW.own.lt G (by rw[hA];rfl)⟩:∃ps N yc G o,P[i]?=some ps/\A5=some ⟨G,o,none⟩/\G<W.heap.size/\W.cell? ⟨G,o+i,none⟩=some (.slice N (k+1) yc)/\At 1 Zc W N (ZO ps)/\wo.heap.size<=G/\G<f.heap.size);have gT:=w0 fun(W:World)(h:Z4 w f (.slice Z Y s) W) i (hi:i<b)=>(by
   obtain⟨y,hy⟩:∃y,aB[i]?=some y:=⟨_,h' (by have C:=w6 List.length cW;rw[sA,sA]at C;have:=eC.out;omega)⟩;have C:(aB.map IR.l)[i]?=some y.l:=by rw[C2,hy];rfl
   rw[cW,C2]at C;obtain⟨ps,bK,e⟩:=e'.1 C;obtain⟨R,h3⟩:=fH.out W h;obtain⟨G,o,hA,aD,hc⟩:=R i y hy;have h4:=hc 0 _ rfl;simp only[w8,w7]at h4;have h5:=h3 y (k3 hy);rw[<-e]at h4 h5;rw[x7,(fK.out ps (k3 bK)).1]at h4;exact⟨ps,y.A,y.c,G,o,bK,hA,aD,h4,h5,aY.own.lt G (by rw[hA];rfl)⟩:∃ts N yc G o,O[i]?=some ts/\A6=some ⟨G,o,none⟩/\G<W.heap.size/\W.cell? ⟨G,o+i,none⟩=some (.slice N k yc)/\At 1 Zc W N (ZO ts)/\wo.heap.size<=G/\G<f.heap.size);have dQ:=w0 (show CoOwn f w.heap.size (.slice Z Y s) ys from I.out.1.below bX);have eY:=w0 I.out.2.1;have eU:=I.out.2.2;have fM:=bX.size;have iC:=w0 fun r (e:(Value.slice Z Y s).ownBlock=some r)=>(bP.out r e).1;have fN:=bC.size;clear aW cV aY cW aN fG fH I M0 N0 C0 bX bC bV bL;go_wp2;go_loopw [3,7] (fun v3 i wr=>∃(q n:Nat) (A:i') (c:Nat) (J:List CoR),q<=a/\v3=.slice A n c/\J.length=n/\n<=112*k+q*b/\i=.int .i64 q/\Hid (CoOwn wr w.heap.size (.slice A n c) J/\J.map CoR.mx=kP B d k++(P.take q).flatMap (fun ps=>kE B d ps O))/\Hid (Z4 w f (.slice Z Y s) wr/\K2 f.heap.size (.slice Z Y s) (.slice A n c))) (fun _ i _=>a-(intOf i).toNat);case atStart=>exact⟨0,Y,Z,s,ys,k2 _,rfl,cI.out,Qa,rfl,⟨dQ.out,by simp[eY.out]⟩,dN.out,.inl rfl⟩
  case round=>
   clear dQ eY dN;obtain⟨q,n4,A4,c4,J,hq,rfl,eZ,hY,rfl,I,z⟩:=hrel;by_cases dE:q<a;case neg=>
    obtain rfl:a=q:=Qa
    have gK:¬(a:Int)<(a:Int):=Qa
    have aQ:=w0 (show J.map CoR.mx=kP B d (k+1)by rw[I.out.2,gG.out,e0 (by rw[dZ.out];omega)]);have eI:=eH.out _ z.out.1;have eJ:=z.out.1.1;have cT:=w0 I.out.1;have dC:J.length<=112*(k+1):=by have:=bH.out;omega
    clear dE;go_wp2;go_roundw;case rel=>exact⟨k+1,J,Qa,Qa,Qj,⟨cT.out,aQ.out,dC⟩,eI,eJ⟩
    case measure=>exact Qv
   have gK:(q:Int)<(a:Int):=Qa
   have iS:q*b+b<=a*b:=by have:=N2 b (show q+1<=a by omega);rwa [x8]at this
   have iO:=bH.out;have hZ:n4+b<=112*(k+1):=Qa
   obtain⟨ps,N,yc,G,o,aH,rfl,-,-,-,iK⟩:=gP.out _ z.out.1 q dE;obtain⟨fF,fD⟩:=cK.out ps (k3 aH);have dJ:=w0 fun(W:World)(h:Z4 w f (.slice Z Y s) W)=>(by obtain⟨iY,N,yc,iE,o',e1,e2,C,R,h3⟩:=gP.out W h q dE;cases e2;rw[aH]at e1;cases e1;exact⟨N,yc,C,R,h3.1⟩:∃N yc,G<W.heap.size/\W.cell? ⟨G,o+q,none⟩=some (.slice N (k+1) yc)/\At 1 Zc W N (ZO ps));have gM:=w0 (Ht (fun ps=>kE B d ps O) aH);have S:=w0 fF;have cJ:=w0 fD;have aU:=w0 I.out.2;clear aH fF fD;go_wp2;go_loopw [3,8] (fun v3 i wr=>∃(r n:Nat) (A:i') (c:Nat) (J:List CoR),r<=b/\v3=.slice A n c/\J.length=n/\n<=n4+r/\i=.int .i64 r/\Hid (CoOwn wr w.heap.size (.slice A n c) J/\J.map CoR.mx=(kP B d k++(P.take q).flatMap (fun ps=>kE B d ps O))++kE B d ps (O.take r))/\Hid (Z4 w f (.slice Z Y s) wr/\K2 f.heap.size (.slice Z Y s) (.slice A n c))) (fun _ i _=>b-(intOf i).toNat);case atStart=>exact⟨0,n4,A4,c4,J,k2 _,rfl,eZ,Qa,rfl,⟨I.out.1,by simp[aU.out,kE]⟩,z.out⟩
   case round=>
    clear I z eZ;obtain⟨r,U,A7,c7,J,hr,rfl,aS,iA,rfl,I,z⟩:=hrel;by_cases bU:r<b;case neg=>
     obtain rfl:b=r:=Qa
     have gL:¬(b:Int)<(b:Int):=Qa
     have aQ:=w0 (show J.map CoR.mx=kP B d k++(P.take (q+1)).flatMap (fun ps=>kE B d ps O)by rw[I.out.2,gM.out,e0 (l:=O) (by rw[eC.out];omega),b7]);have cT:=w0 I.out.1;have dC:U<=112*k+(q+1)*b:=by rw[Q1,qU];omega
     clear bU;go_wp2;go_roundw;case rel=>exact⟨q+1,U,A7,c7,J,Qa,rfl,aS,dC,Qj,⟨cT.out,aQ.out⟩,z.out⟩
     case measure=>exact Qv
    have gL:(r:Int)<(b:Int):=Qa
    obtain⟨wi,gO⟩:∃wi,wi=wr:=⟨_,rfl⟩;subst gO;obtain⟨ts,jA,jB,aK,o2,aJ,rfl,-,-,-⟩:=gT.out _ z.out.1 r bU;obtain⟨dG,fJ⟩:=fK.out ts (k3 aJ);obtain⟨N,yc,z1,y1,cC⟩:=dJ.out _ z.out.1;have gU:=w0 cC;obtain⟨E,tA,tc,hU,iX,bO,e2,z2,y2,cD,iL⟩:=gT.out _ z.out.1 r bU;cases e2;obtain rfl:E=ts:=R' (bO.symm.trans aJ);have gV:=w0 cD;have M0:=eH.out _ z.out.1;have bQ:=z.out.1.1;have dF:=w0 (show kE B d ps (O.take (r+1))=kE B d ps (O.take r)++A' B d ps E from Hs aJ);have dP:=w0 I.out.1;have bS:=w0 I.out.2;have iU:=bQ.size;have fI:=w0 fun(W:World) (hb:QB wi W)=>gA.out N tA yc tc (k+1) k ps E W (via bQ hb) (gU.out.below hb) (gV.out.below hb) S.out dG cJ.out fJ Qa Qa Qa;have cL:=w0 dG;clear I cC cD aJ bO dG fJ;go_wp2;refine p5 Qb ?_;refine v8 14 _ rfl rfl Qb Qb Qb Qb ?_;simp only[sT,j0];apply yC w [9] (fun j=>[]) (fun j g=>.tuple #[.slice g.a1 (k+1) g.c1,.slice g.a2 (k+1) g.c2])
     (fun j h x=>∃ms,SysI x wi.heap.size (.slice h.a1 (k+1) h.c1) (.slice h.a2 (k+1) h.c2) ms (NB (exs d) E)/\ms.map IR.l=sysM (exs d) ps E);case hB=>kernel_rfl
    case hB'=>intro g;kernel_rfl
    case hS|hN|hD|hdn=>kernel_rfl
    case hw=>exact bQ
    case hR=>rintro j h x x' ⟨ms,C,R⟩ hb;exact⟨ms,C.below hb,R⟩
    case hq=>
     intro g u L cZ H eG;have N0:=Zx L M0;have D0:=bk2 N0;have zz:=ZG N0;have e1:=(L.cell (show (⟨G,o+q,none⟩:Addr).block<_ from z1)).trans y1;have e2:=(L.cell (show (⟨aK,o2+r,none⟩:Addr).block<_ from z2)).trans y2;have z3:=h8 z1 L.size;have z4:=h8 z2 L.size;clear N0;simp only[mixL,yieldsC,l5,n7,Nat.reduceAdd,Nat.reduceBEq,m',o7,sS,p',k7,nK,ZyJ,ZyI,r5,Nat.reduceEqDiff];repeat (go_big_quiet_step (fail))
     exact ZyG rfl
    case hind=>intro j K;simp only[ZBq,ZBH,ZyH]at K;rcases K with rfl;intro g h;kernel_rfl
    case hmake=>intro j K o D g x t cX hdep;simp only[ZBq,ZBH,ZyH]at K;rcases K with rfl;simp only[p0,B4,M3]at D;subst D;refine zA Qb ((fI.out x t).mono ?_);rintro e x' ⟨⟨A9,c9,B9,d9,rfl,ms,M,aO⟩,bA⟩;exact⟨_,rfl,⟨{Gh.zero with a1:=A9,c1:=c9,a2:=B9,c2:=d9},rfl,ms,M.base t.size,aO⟩,bA⟩
    intro g x1 aN bY hW;obtain⟨ms,M,aO⟩:=aN 9 Qd;refine R3 (.slice (g 9).a2 (k+1) (g 9).c2) Qb ?_;generalize (g 9).a1=A9 at M |-;generalize (g 9).c1=c9 at M |-;generalize (g 9).a2=B9 at M |-;generalize (g 9).c2=d9 at M |-;have cH:ms.length=k+1:=by have C:=w6 List.length aO;rw[sA]at C;rw[C];simp[sysM,cL.out]
    have aI:(NB (exs d) E).length=k+1:=by simp[NB,cL.out]
    have dW:SqAt x1 A9 (k+1) ms:=⟨M.rowsAt,cH,fun y hy=>by have C:=dU.out ps E y.l (by rw[<-aO];exact b3.2 ⟨y,hy,rfl⟩);have R:=(M.row y hy).2.1;rw[C.1,S.out]at R;exact⟨by rw[C.1,S.out],R,C.2⟩⟩;have dX:At 1 Zc x1 B9 (NB (exs d) E):=by have C:=M.o2;rw[aI,<-pR]at C;exact x2 C aI
    have bW:=w0 fun(W:World)(hb:QB x1 W)=>(by have h:=Gx A9 B9 ms (NB (exs d) E) c9 d9 (k+1) W Qa Qa (dW.below hb) (dX.below hb) aI (fZ.out E);rw[aO]at h;exact h);have bN:∀l den,x6 (k+1) (sysM (exs d) ps E) (NB (exs d) E)=some (l,den)->l.length=k+1/\0<den/\den<=384000000:=fun l den h=>F5 h Qa fun hT hr=>(dU.out ps E hT hr).2;have eL:A' B d ps E=rE B d ps (k+1) (x6 (k+1) (sysM (exs d) ps E) (NB (exs d) E)):=by unfold A';rw[S.out]
    have bD:=w0 eL;obtain⟨Q,hQ⟩:=Qu (x6 (k+1) (sysM (exs d) ps E) (NB (exs d) E));rw[hQ]at bW bN bD;have dS:=Zx bY M0;have aU:=w0 (dP.out.below bY);have cP:=w0 (show Z4 w f (.slice Z Y s) x1 from z.out.1.below bY);have aR:=w0 z.out.2;clear dW dX M aO aN eL hQ fI cH aI z1 z2 y1 y2 M0 bQ;clear dP bY z;cases Q with
    |none=>
     have bE:=w0 (show J.map CoR.mx=(kP B d k++(P.take q).flatMap (fun ps=>kE B d ps O))++kE B d ps (O.take (r+1))by rw[bS.out,dF.out,bD.out];simp only[rE,q5]);go_wp2_with (go_at_call 61;refine(bW.out _ (l3 _ _)).mono ?_;rintro e F ⟨eQ,aP⟩;have aV:=w0 (aU.out.below aP);have aL:=w0 (cP.out.below aP);cases eQ);go_roundw;case rel=>exact⟨r+1,U,A7,c7,J,Qa,rfl,aS,Qa,Qj,⟨aV.out,bE.out⟩,aL.out,aR.out⟩
     case measure=>exact Qv|some Q=>
     obtain⟨l,den⟩:=Q;obtain⟨eU,iM,iN⟩:=bN l den rfl;have bR:Hid (rE B d ps (k+1) (some (l,den))=if (F2 B d den (spP B ps l (k+1))).2=0 then [(den,spP B ps l (k+1))]else []):=rfl;have eV:=w0 eU;go_wp2_with (go_at_call 61;refine(bW.out _ (l3 _ _)).mono ?_;rintro e F ⟨⟨iD,iF,rfl,cG⟩,aP⟩;have aV:=w0 (aU.out.below aP);have aL:=w0 (cP.out.below aP);have M2:=Zx aP dS;have D2:=bk2 M2;have jC:=ZG M2;have bI:=w0 cG;clear cG dS aU cP bN bW);refine k4 ?_;intro x3 bZ;have eF:QB F x3:=by rw[bZ];go_grown
     have X0:x3.heap[F.heap.size+1]?=some (.cells #[den,.slice (some F.heap.size) B B] 57):=by rw[bZ];exact Qs
     have X1:Hid (ZN 3 x3 F.heap.size (List.replicate B 0)):=by rw[bZ];exact(ZN.new (T:=3) F (List.replicate B 0)).alloc _
     obtain⟨aC,aG,zp,fP,cE⟩:=dJ.out F aL.out;have fl:=w0 fun j (K:j<k+1)=>D9 (e7 bI.out) (k:=j) (by rw[eV.out];exact K);have fp:=w0 fun j (K:j<k+1)=>(by
      obtain⟨b1,o1,e1,C,R⟩:=D9 cE (k:=j) (by rw[x7,S.out];exact K);obtain⟨p,hp⟩:∃p,ps[j]?=some p:=⟨_,h' (by rw[S.out];exact K)⟩;have gI:(ZO ps).getD j 0=(p:Int):=by rw[D1,RP hp];rfl
      rw[gI]at R;exact⟨p,b1,o1,e1,C,R,by rw[D1,hp];rfl,cJ.out p (k3 hp)⟩:∃(p b1 o1:Nat),aC=some ⟨b1,o1,none⟩/\b1<F.heap.size/\F.cell? ⟨b1,o1+j,none⟩=some (.int .i64 (p:Nat))/\ps.getD j 0=p/\p<B);clear bZ cE bI D2;go_loopw [15] (fun i wr=>∃j:Nat,j<=k+1/\i=.int .i64 j/\Hid (ZN 3 wr F.heap.size (spP B ps l j))/\wr.heap[F.heap.size+1]?=some (.cells #[den,.slice (some F.heap.size) B B] 57)/\QB F wr)(fun i _=>k+1-(intOf i).toNat);case atStart=>exact⟨0,k2 _,rfl,X1,X0,eF⟩
     case round=>
      clear X1 X0 eF;obtain⟨j,K,rfl,hI,X0,H⟩:=hrel;by_cases eR:j<k+1
      .have gD:(j:Int)<((k+1:Nat):Int):=Qa
       obtain⟨p,b1,o1,rfl,gB,cp,fE,gJ⟩:=fp.out j eR;obtain⟨b2,o2,rfl,eE,cl⟩:=fl.out j eR;have iR:(p:Int)<(B:Int):=Qa
       have dH:=(H.cell (show (⟨b1,o1+j,none⟩:Addr).block<_ from gB)).trans cp;have cM:=(H.cell (show (⟨b2,o2+j,none⟩:Addr).block<_ from eE)).trans cl;have dI:=(H.cell (show (⟨G,o+q,none⟩:Addr).block<_ from zp)).trans fP;have gS:=H.size;have gR:=ZG X0;have hsp:Hid (spP B ps l (j+1)=(spP B ps l j).set p (l.getD j 0)):=by show (spP B ps l j).set (ps.getD j 0) (l.getD j 0)=_;rw[fE]
       have bM:=w0 (mK B ps l j);obtain⟨SJ,dV⟩:=Qu (spP B ps l j);obtain⟨lv,eW⟩:=Qu (l.getD j 0);rw[dV]at hI hsp bM;rw[eW]at hsp cM;have dM:wr.heap[F.heap.size]?=some (.cells (D3 SJ) 3):=hI.out;have X2:=bk2 X0;clear dV eW cp cl fE;go_wp2;refine p5 Qb ?_;apply sH F 14 F.heap.size (.cells (D3 SJ) 3) (.cells (D3 (SJ.set p lv)) 3);case hB=>kernel_rfl
       case hB'|hS|hN|hkd=>kernel_rfl
       case hw=>exact H
       case hb=>exact sW _
       case h4=>exact dM
       case hq=>
        intro u L cZ;have e1:=(Q0 (a:=⟨b1,o1+j,none⟩) (L.2.2 b1 Qa Qa)).trans dH;have e2:=(Q0 (a:=⟨b2,o2+j,none⟩) (L.2.2 b2 Qa Qa)).trans cM;have e3:=(Q0 (a:=⟨G,o+q,none⟩) (L.2.2 G Qa Qa)).trans dI;have e4:=(L.2.2 (F.heap.size+1) Qa Qa).trans X0;have e5:=bk2 e4;have gN:=L.2.1;have z1:b1<u.heap.size:=Qa
        have z2:b2<u.heap.size:=Qa
        have z3:G<u.heap.size:=Qa
        have z4:F.heap.size+1<u.heap.size:=Qa
        have z5:F.heap.size<u.heap.size:=Qa
        clear e4;simp only[mixL,yieldsC,l5,n7,Nat.reduceAdd,Nat.reduceBEq,m',o7,sS,p',k7,nK,ZyJ,ZyI,r5,Nat.reduceEqDiff];repeat (go_big_quiet_step (fail))
        exact ZyG rfl
       case hs4=>intro o' D x hx hz;simp only[p0,B4,M3]at D;subst D;refine⟨_,oX (n:=lv) rfl Qb Qb Qb (ZN.loadD hz (k:=p) (by rw[bM.out];exact gJ)) (ZN.frozen hz p),(OnlyB.refl _ _).set _ _,?_⟩;rw[<-kM];exact ZH hz _ rfl
       intro u L cA;have fT:Hid (ZN 3 u F.heap.size (spP B ps l (j+1))):=by rw[hsp.out];exact cA
       have X3:=(L.2.2 (F.heap.size+1) Qa Qa).trans X0;have gC:=L.1;clear L cA hI dM X2 dH cM dI;go_wp2;go_roundw;case rel=>exact⟨j+1,Qa,Qj,fT.out,X3,gC⟩
       case measure=>exact Qv
      .obtain rfl:k+1=j:=Qa
       have gD:¬((k+1:Nat):Int)<((k+1:Nat):Int):=Qa
       obtain⟨E1,dL⟩:=Qu ((F2 B d den (spP B ps l (k+1))).1);obtain⟨E2,cO⟩:=Qu ((F2 B d den (spP B ps l (k+1))).2);have eM:=w0 (by have h:=fS.out (some ⟨F.heap.size,0,none⟩) B den (spP B ps l (k+1)) wr (via aL.out.1 H) (hI.out.at') (mK _ _ _ _);rw[dL,cO]at h;exact h);rw[cO]at bR;have bM:=w0 (mK B ps l (k+1));obtain⟨mm,aQ⟩:=Qu (spP B ps l (k+1));rw[aQ]at hI bR bM;have bF:=w0 bD.out;rw[bR.out]at bF;have M4:=Zx H M2;have D4:=bk2 M4;have X2:=bk2 X0;have gS:=H.size;have cR:=w0 (aV.out.below H);have cQ:=w0 (aL.out.below H);have bT:=w0 fun r (e:(Value.slice A7 U c7).ownBlock=some r)=>aV.out.own.lt r e;have gR:=ZG X0;have zw:=ZG M4;clear bR dL cO aQ aV aL;have iI:∀x,(isAgg 57).run prog x=.ok true x:=fun x=>Qb
       have bL:∀x,(sizeOf 57).run prog x=.ok 2 x:=fun x=>Qb
       have iJ:∀x,(isAgg 25).run prog x=.ok true x:=fun x=>Qb
       have iT:∀x,(sizeOf 25).run prog x=.ok 2 x:=fun x=>Qb
       by_cases hz:E2=0
       .have cX:(E2==0)=true:=by simp[hz]
        rw[Zde hz]at bF;go_wp2_with (go_at_call 62;refine eM.out.mono ?_;rintro e x5 ⟨rfl,X⟩);have eD:=H.trans (X.mono H.size);have aM:=w0 (cQ.out.below X);have cS:=w0 (cR.out.below X);obtain⟨iZ,aE,aF,b5,o5,-,fR,z5,y5,-⟩:=gT.out x5 aM.out r bU;cases fR;have fQ:=(eD.cell (show (⟨G,o+q,none⟩:Addr).block<_ from zp)).trans fP;have X5:=Zx X X0;have iW:=X.size;have hG:=w0 (show some G≠(Value.slice A7 U c7).ownBlock from fun e=>by
         rcases aR.out with h|⟨jj,h,K⟩;·have:=(bP.out G (h.symm.trans e.symm)).2;omega
         .rw[h]at e;have:=R' e;omega);have hH:=w0 (show some aK≠(Value.slice A7 U c7).ownBlock from fun e=>by
         rcases aR.out with h|⟨jj,h,K⟩;·have:=(bP.out aK (h.symm.trans e.symm)).2;omega
         .rw[h]at e;have:=R' e;omega);have hJ:=w0 (show some (F.heap.size+1)≠(Value.slice A7 U c7).ownBlock from fun e=>by have:=(bT.out _ e.symm).2;omega);have fU:=w0 (hI.out.below X);have dO:w.heap.size<=F.heap.size:=by have:=fN;have:=fM;omega
        have fL:f.heap.size<=x5.heap.size:=aM.out.2.1;have bB:QB w x5:=aM.out.1;have iB:=w0 bS.out;clear M4 D4 X2 X0 cR cQ hI;go_wp2;refine p5 Qb ?_;refine v8 13 _ rfl rfl Qb Qb Qb Qb ?_;simp only[sT,j0];apply lN w (Z4 w x5 (.slice A7 U c7)) [11,12] (fun j=>if j=12 then [11]else [])
         (fun j g=>if j=11 then .slice (some g.b) 1 1 else .slice g.a1 (U+1) g.c1)
         (fun i g y=>(i<2->CoOwn y w.heap.size (.slice A7 U c7) J)/\(i=1->x5.heap.size<=(g 11).b/\y.heap[(g 11).b]?=some (.cells #[den,.slice (some F.heap.size) B B,.slice aC (k+1) aG,.slice aE k aF] 79)) /\(i=2->CoOwn y w.heap.size (.slice (g 12).a1 (U+1) (g 12).c1) (J++[⟨some ⟨F.heap.size,0,none⟩,B,mm,den,aC,k+1,aG,aE,k,aF⟩])/\((Value.slice (g 12).a1 (U+1) (g 12).c1).ownBlock=(Value.slice A7 U c7).ownBlock∨∃j,(Value.slice (g 12).a1 (U+1) (g 12).c1).ownBlock=some j/\x5.heap.size<=j)));case hB=>kernel_rfl
        case hB'=>intro g;kernel_rfl
        case hS|hN=>kernel_rfl
        case hnd=>decide
        case hD=>kernel_rfl
        case hdep=>intro i hi;rcases i with _|i<;>first|decide|(simp at hi;omega)
        case hC0=>exact Z4.refl bB
        case hCs=>exact fun y y' h hb=>h.below hb
        case hCw=>exact fun y h=>h.1
        case hq=>
         intro g u L cZ H eG;have e1:=(Q0 (a:=⟨G,o+q,none⟩) (L.2.2 G Qa hG.out)).trans fQ;have e2:=(Q0 (a:=⟨aK,o2+r,none⟩) (L.2.2 aK Qa hH.out)).trans y5;have e4:=(L.2.2 (F.heap.size+1) Qa hJ.out).trans X5;have e5:=bk2 e4;have gN:=L.2.1;have z1:G<u.heap.size:=Qa
         have z2:aK<u.heap.size:=Qa
         have z4:F.heap.size+1<u.heap.size:=Qa
         clear e4;simp only[mixL,yieldsC,l5,n7,Nat.reduceAdd,Nat.reduceBEq,m',o7,sS,p',k7,nK,ZyJ,ZyI,r5,Nat.reduceEqDiff];repeat (go_big_quiet_step (fail))
         exact ZyG rfl
        case h0=>exact⟨fun _=>cS.out,fun h=>Qa,fun h=>Qa⟩
        case hR=>rintro i g y y' ⟨r0,r1,r2⟩ hb;exact⟨fun h=>(r0 h).below hb,fun h=>⟨(r1 h).1,Zx hb (r1 h).2⟩,fun h=>⟨(r2 h).1.below hb,(r2 h).2⟩⟩
        case hind=>exact Qz
        case hsp=>
         rintro i j dA o D g y ⟨r0,r1,r2⟩ t;rcases i with _|_|i;·cases dA;simp only[p0,B4,M3]at D;subst D;refine G1 (x:=y.alloc (.cells #[den,.slice (some F.heap.size) B B,.slice aC (k+1) aG,.slice aE k aF] 79)) (v:=.slice (some y.heap.size) 1 1) Qb ⟨t.below (ZC _ _),.inr ⟨{Gh.zero with b:=y.heap.size},rfl,fun _=>(r0 Qa).below (ZC _ _),fun _=>?_,fun h=>Qa⟩⟩;rw[ZX];exact⟨t.2.1,ZA _ _ rfl⟩
         .cases dA;simp only[p0,B4,M3]at D;subst D;obtain⟨hV,fO⟩:=r1 rfl;have dR:=r0 Qa;have fC:=dR.own;rw[aS]at fC;refine sV (.tmp 111) (.tmp 122) 74 79 i0 _ (.slice A7 U c7) 80 w.heap.size U (g 11).b 4 (J.flatMap CoR.cs) [.int .i64 den,.slice (some F.heap.size) B B,.slice aC (k+1) aG,.slice aE k aF] 79 rfl rfl rfl Qb hi gX gY cA rfl Qc Qc rfl fC fO (by intro v hv;simp only[ZBq,ZBH,ZyH]at hv;rcases hv with rfl|rfl|rfl|rfl<;>rfl) Qa (h9 bB.size t.2.1) ?_;intro A9 c9 y' fX eP fB;have gW:=t.2.1;refine⟨t.grown bB.size (fun r e=>(bT.out r e).1) eP (fun r e=>.inr e),.inr ⟨{Gh.zero with a1:=A9,c1:=c9},rfl,fun h=>Qa,fun h=>Qa,fun _=>?_⟩⟩;rw[ZX];refine⟨CoOwn.push dR (y:=⟨some ⟨F.heap.size,0,none⟩,B,mm,den,aC,k+1,aG,aE,k,aF⟩) ?_ ?_ eP ?_ fB,?_⟩
          .refine pS (fU.out.at') fun a ha=>?_;cases ha;exact t.2.2 F.heap.size Qa fun e=>by have:=(bT.out _ e.symm).2;omega
          .intro a ha;cases ha;exact⟨dO,Qg,fun e=>by have:=(bT.out _ e.symm).2;dsimp only at this;omega⟩
          .rw[aS];simp only[CoR.cs];rw[bM.out];exact fX
          .rcases fB with h|h;·exact .inl h
           .exact .inr ⟨_,h,gW⟩
         .simp at dA
        rintro g y ⟨-,-,r2⟩ t;obtain⟨cU,bJ⟩:=r2 rfl;refine R3 (.slice (g 12).a1 (U+1) (g 12).c1) rfl ?_;obtain⟨A8,hA8⟩:=Qu ((g 12).a1);obtain⟨c8,eK⟩:=Qu ((g 12).c1);rw[hA8,eK]at cU bJ |-;have fY:=w0 cU;have fV:=w0 (aM.out.trans2 t aR.out);have fW:=w0 (aR.out.next fL bJ);have bE:=w0 (show (J++[(⟨some ⟨F.heap.size,0,none⟩,B,mm,den,aC,k+1,aG,aE,k,aF⟩:CoR)]).map CoR.mx=(kP B d k++(P.take q).flatMap (fun ps=>kE B d ps O))++kE B d ps (O.take (r+1))by rw[x0,bS.out,dF.out,bF.out];simp only[M1,N1,CoR.mx,b7]);have gZ:=w0 (show (J++[(⟨some ⟨F.heap.size,0,none⟩,B,mm,den,aC,k+1,aG,aE,k,aF⟩:CoR)]).length=U+1 by rw[hK,aS];rfl);clear cU r2 t hA8 eK bJ y5 fQ X5;go_wp2;go_roundw;case rel=>exact⟨r+1,U+1,A8,c8,_,Qa,rfl,gZ.out,Qa,Qj,⟨fY.out,bE.out⟩,fV.out,fW.out⟩
        case measure=>exact Qv
       .have cX:(E2==0)=false:=by simpa using hz
        rw[q' hz]at bF;go_wp2_with (go_at_call 62;refine eM.out.mono ?_;rintro e x5 ⟨rfl,X⟩;have cS:=w0 (cR.out.below X);(have aM:=w0 (cQ.out.below X)));have bE:=w0 (show J.map CoR.mx=(kP B d k++(P.take q).flatMap (fun ps=>kE B d ps O))++kE B d ps (O.take (r+1))by rw[bS.out,dF.out,bF.out,q5]);go_roundw;case rel=>exact⟨r+1,U,A7,c7,J,Qa,rfl,aS,Qa,Qj,⟨cS.out,bE.out⟩,aM.out,aR.out⟩
        case measure=>exact Qv
def tZ(b:Nat)(a:e6):Bool:=decide (0<(P1 b a).length)
def MU(F i:i')(G s a j:Nat)(b:e6)(w:World)(hR:RightE b a)(C:h7 w i b)(h:b.length=j)(u:1<=a)(d:a<=4):Calls prog 10 #[.agg #[.slice F a G,.slice i j s]] w (Qt w (tZ a b)):=by
 have B:=w0 fun W (I:QB w W)=>GC F i G s a j b W hR (C.below I) h u d;unfold tZ;obtain⟨L,E⟩:=Qu ((P1 a b).length);rw[E]at B |-;have H:decide ((0:Int)<(L:Int))=decide (0<L):=by rw[wE];omega
 clear hR C h u d E;go_enter func10,ntmps10;go_wp2_with (go_at_call 28;refine(B.out _ Qi).mono ?_;rintro e f ⟨⟨A,c,rfl,-⟩,r⟩);go_ret;exact⟨by simp[H],via (ZC _ _) r⟩
def Ja{a:Nat} {b:e6} (c:RightE b a)(d:a<=4):(P1 a b).length<=448:=by
 have u:=c.n8;have r:∀k,k<4->(L2 a b k).length<=112:=fun k e=>by
  have h:=F3 a (w5.2 Qa) b.length (w5.2 Qa) k (w5.2 e);refine h9 ?_ h;have i:∀ps l,(kE a b ps l).length<=l.length:=fun ps l=>by induction l with
   |nil=>exact sW _|cons t l ih=>have:=Hr a b ps t;unfold kE at ih |-;simp only[rW,hK,y'];omega
  have j:∀l:List (List Nat),(l.flatMap fun ps=>kE a b ps (cmb 0 b.length k)).length<=l.length*(cmb 0 b.length k).length:=fun l=>by induction l with
   |nil=>simp|cons t l ih=>have:=i t (cmb 0 b.length k);simp only[rW,hK,y',x8];omega
  exact j _
 have s:∀k,k<=4->(kP a b k).length<=112*k:=fun k=>by induction k with
  |zero=>intro _;simp[kP]|succ k ih=>intro e;have:=ih Qa;have:=r k Qa;rw[FZ,hK];omega
 unfold P1;have:=s (min (b.length+1) a) Qa;omega
def MV(b:L')(L:List (Int×List Int))(c:Nat)(e:Ending)(d:World):Prop:=match L with|[]=>e=.returned (.tuple #[.agg #[(0:Int),.slice none 0 0,.slice none 0 0,.slice none 0 0],false])|x::l=>∃A k a r i h s j,e=.returned (.tuple #[.agg #[(leastC b x l).1,.slice A c k,.slice a r i,.slice h s j],true])/\At 1 Zc d A (leastC b x l).2
def Jb{w:World} {A:i'} {l:L'} {b:Nat} {T:aN} (h:At 1 Zc w A l)(C:w.heap[b]?=some (.cells #[(0:Int),.slice none 0 0,.slice none 0 0,.slice none 0 0] T))(c:0<l.sum):∀g,A=some g->some g.block≠some b:=by
 intro g e E;obtain⟨x,i,B⟩:∃x∈l,x≠0:=by
  apply fX;intro H;have I:∀l:List Int,(∀x∈l,x=0)->l.sum=0:=fun l=>by induction l with
   |nil=>intro _;rfl|cons a l ih=>intro h;rw[aS,h a Qd,ih fun x i=>h x (by simp[i])];rfl
  rw[I l fun x i=>fX fun h=>H ⟨x,i,h⟩]at c;omega
 obtain⟨k,G⟩:=r2.1 i;obtain⟨u,o,s,-,F⟩:=h k x G;have j:=F 0 _ rfl;obtain rfl:u=b:=by rw[e]at s;cases s;exact R' E
 simp only[World.cell?,C]at j;have r:=cP j;simp at r;exact B r
def Jc(a:L')(x:Int×List Int)(l:List (Int×List Int)) {q:Nat} {y:Int×List Int} (h:l[q]?=some y):leastC a x (l.take (q+1))=lQ a (leastC a x (l.take q)) y:=by unfold leastC;rw[w9,h,List.foldl_append];rfl
def Jd(pA P wA:i')(pc ec wc a en:Nat)(es:e6)(f:L')(w:World)(hR:RightE es a)(hE:h7 w P es)(bY:es.length=en)(h1:1<=a)(h4:a<=4)(hW:At 1 Zc w wA f)(bM:f.length=a)(bL:ZK 400 f):Calls prog 31 #[.agg #[.slice pA a pc,.slice P en ec],.slice wA a wc] w fun e w'=>MV f (P1 a es) a e w'/\QB w w':=by
 have hC:=w0 fun W (q:QB w W)=>GC pA P pc ec a en es W hR (hE.below q) bY h1 h4;have aQ:=w0 fun c (h:c∈P1 a es)=>vJ hR h4 h;have aK:=w0 fun(B:i')(b:L')(cb:Nat)(W:World)(q:QB w W)(hB:At 1 Zc W B b)(hl:b.length=a)(hs:ZK 3840000 b)=>(by have h:=sP wA B f b wc cb W (hW.below q) hB Qa Qa 400 3840000 Qc bL hs;rw[bM,hl]at h;exact h);have aN:=w0 fun(b:L')(hl:b.length=a)(hs:ZK 3840000 b)=>(by have h:=jQ f b a bL hs;rw[<-bM,qZ f b Qa,bM]at h;exact h9 h (N2 _ h4):(dotL f b).natAbs<=4*(400*3840000));obtain⟨L,hL⟩:=Qu (P1 a es);rw[hL]at hC aQ |-;have bS:∀x,(isAgg 79).run prog x=.ok true x:=fun x=>Qb
 have U:∀x,(sizeOf 79).run prog x=.ok 4 x:=fun x=>Qb
 have cH:L.length<=448:=by rw[<-hL];exact Ja hR h4
 clear hR hE bY h1 h4 hW bL hL;cases L with
 |nil=>
  have aJ:=w0 hC.out;simp only[hG]at aJ;clear hC aQ;go_enter func31,ntmps31;go_wp2_with (first|(go_at_call 28;refine(aJ.out _ Qi).mono ?_;rintro e w2 ⟨⟨A,c,rfl,-⟩,I⟩;(have M1:=Zx I (show ((w.alloc (.cells #[.slice pA a pc,.slice P en ec] 25)).alloc (.cells #[(0:Int),.slice none 0 0,.slice none 0 0,.slice none 0 0] 79)).heap[w.heap.size+1]?=some (.cells #[(0:Int),.slice none 0 0,.slice none 0 0,.slice none 0 0] 79)by exact Qs));(have bG:=via (by go_grown:QB w ((w.alloc (.cells #[.slice pA a pc,.slice P en ec] 25)).alloc (.cells #[(0:Int),.slice none 0 0,.slice none 0 0,.slice none 0 0] 79))) I))|(refine P0 Qh (.tmp 4) (.tmp 14) 79 Qh (w.heap.size+1) [.int .i64 0,.slice none 0 0,.slice none 0 0,.slice none 0 0] [.int .i64 0,.slice none 0 0,.slice none 0 0,.slice none 0 0] 79 ?sp ?sq (U _) ?sb rfl (by simp[Value.oneCell']) ?_));case sp=>rfl
  case sq=>rfl
  case sb=>exact M1
  intro w9 bE aP aX;have aD:QB w w9:=ZS bG aP fun b e=>by have:=R' e;omega
  go_wp2;refine r3 (v:=.tuple #[.agg #[(0:Int),.slice none 0 0,.slice none 0 0,.slice none 0 0],false]) ?_ rfl ⟨rfl,aD⟩;exact b4 (p:=4) (u:=5) (ad:=⟨w.heap.size+1,0,none⟩) rfl Qe (x3 (T:=79) (cs:=[.int .i64 0,.slice none 0 0,.slice none 0 0,.slice none 0 0]) (bS _) (U _) bE)|cons x0 l0=>
  obtain⟨L,bC⟩:=Qu ((x0::l0).length);have cR:L<=448:=Qa
  have aA:=w0 (show L=l0.length+1 by rw[<-bC];rfl);have cQ:((L:Int)==0)=false:=by have:=aA.out;simp;omega
  have cS:0<L:=by have:=aA.out;omega
  rw[bC]at hC;have aJ:=w0 hC.out;have aI:=w0 aQ.out;clear hC aQ bC cH;go_enter func31,ntmps31;go_wp2_with (first|(go_at_call 28;refine(aJ.out _ Qi).mono ?_;rintro e w2 ⟨⟨A,c,rfl,ys,aY,Q⟩,I⟩;(have M0:=Zx I (show ((w.alloc (.cells #[.slice pA a pc,.slice P en ec] 25)).alloc (.cells #[(0:Int),.slice none 0 0,.slice none 0 0,.slice none 0 0] 79)).heap[w.heap.size]?=some (.cells #[.slice pA a pc,.slice P en ec] 25)by exact Qs));(have M1:=Zx I (show ((w.alloc (.cells #[.slice pA a pc,.slice P en ec] 25)).alloc (.cells #[(0:Int),.slice none 0 0,.slice none 0 0,.slice none 0 0] 79)).heap[w.heap.size+1]?=some (.cells #[(0:Int),.slice none 0 0,.slice none 0 0,.slice none 0 0] 79)by exact Qs));(have bG:=via (by go_grown:QB w ((w.alloc (.cells #[.slice pA a pc,.slice P en ec] 25)).alloc (.cells #[(0:Int),.slice none 0 0,.slice none 0 0,.slice none 0 0] 79))) I);(obtain⟨y0,Y,rfl,cL⟩:∃y0 Y,ys=y0::Y/\y0.mx=x0:=(by cases ys with|nil=>cases Q|cons y Y=>exact⟨y,Y,rfl,(List.cons.inj Q).1⟩));have cF:=w0 aY;have aT:=w0 Q;clear aY Q I;(obtain⟨b,o,rfl,q,s⟩:=cF.out.1 0 y0 rfl);have c0:=s 0 _ rfl;have c1:=s 1 _ rfl;have c2:=s 2 _ rfl;have k:=s 3 _ rfl;clear s;simp only[gD,w7]at c0 c1 c2 k)|(refine P0 Qh (.tmp 7) (.tmp 17) 79 Qh (w2.heap.size) (CoR.cs y0) [.int .i64 0,.slice none 0 0,.slice none 0 0,.slice none 0 0] 79 ?sp ?sq (U _) ?sb rfl (by simp[CoR.cs,Value.oneCell']) ?_));case sp=>rfl
  case sq=>rfl
  case sb=>exact ZA _ _ rfl
  intro w9 g aP aX;have aD:Below w2.heap.size w2 w9:=ZS (ZC _ _) aP fun b e=>by cases e;exact sW _
  obtain⟨b7,aC⟩:=Qu w2.heap.size;rw[aC]at g aD |-;obtain⟨n0,cI⟩:=Qu w2.heap.size;have cV:w.heap.size+1<b7:=by rw[<-aC];exact ZG M1
  have cT:b<b7:=by rw[<-aC];exact q
  clear aP aX c0 c1 c2 k q n0 cI;have M:=w0 aC;clear aC;go_wp2;go_loopw [8] (fun v8 wr=>∃(i:Nat)(y:CoR),1<=i/\i<=L/\v8=.int .i64 i/\wr.heap[b7]?=some (.cells #[y.den,.slice y.A y.l.length y.c,.slice y.A3 y.n3 y.c3,.slice y.A4 y.n4 y.c4] 79)/\Hid (y∈y0::Y/\y.mx=leastC f x0 (l0.take (i-1)))/\Below b7 w2 wr)(fun v8 _=>L-(intOf v8).toNat);case atStart=>exact⟨1,y0,sW _,by have:=aA.out;omega,rfl,g,⟨Qd,by simp[leastC,cL]⟩,aD⟩
  case round=>
   clear g aD;obtain⟨i,⟨Z,n,R,d,t,n3,k,D,n4,N⟩,cW,cY,rfl,g,hI,S⟩:=hrel;simp only at g hI;have O:QB w wr:=bG.trans (S.mono Qa);have aZ:wr.heap[w.heap.size+1]?=some (.cells #[(0:Int),.slice none 0 0,.slice none 0 0,.slice none 0 0] 79):=(S.block _ Qa).trans M1;have bN:=cF.out.below (by unfold QB;rw[M.out];exact S);have bH:(⟨Z,n,R,d,t,n3,k,D,n4,N⟩:CoR).mx∈x0::l0:=by rw[<-aT.out];exact sG hI.out.1
   have G:=aI.out _ bH;have aF:R.length=a:=G.mix.len;have aW:R.sum=d:=G.mix.sum;have bW:=G.mix.d1;have aU:=G.dK;have aR:ZK 3840000 R:=fun x hx=>by have:=G.mix.nn x hx;have:=G.dK;simp only[CoR.mx]at*;omega
   have F:=w0 (bN.2 _ hI.out.1);simp only[CoR.mx]at bW aU F;rw[aF]at g;by_cases cZ:i<L;case neg=>
    obtain rfl:i=L:=Qa
    have r:=hI.out.2;rw[show l0.take (i-1)=l0 from e0 (by have:=aA.out;omega)]at r;have bZ:=w0 (show ∀e w',At 1 Zc w' Z R->e=.returned (.tuple #[.agg #[d,.slice Z a n,.slice t n3 k,.slice D n4 N],true])->MV f (x0::l0) a e w' from fun e w' h1 h2=>by
     simp only[CoR.mx]at r;refine⟨Z,n,t,n3,k,D,n4,N,?_,?_⟩;·rw[<-r];exact h2
     .rw[<-r];exact h1);have D7:=bk4 g;clear hI r aN aK aI aT bH G aR;go_wp2_with (refine P0 Qh (.tmp 4) (.tmp 53) 79 Qh (w.heap.size+1) [.int .i64 d,.slice Z a n,.slice t n3 k,.slice D n4 N] [.int .i64 0,.slice none 0 0,.slice none 0 0,.slice none 0 0] 79 ?sp ?sq (U _) ?sb rfl (by simp[Value.oneCell']) ?_);case sp=>rfl
    case sq=>rfl
    case sb=>exact aZ
    intro w8 J aO cD;have bD:QB w w8:=ZS O aO fun b e=>by have:=R' e;omega
    have bT:=w0 (K0 F.out aO (Jb F.out aZ (by rw[aW];omega)));go_wp2;refine r3 (v:=.tuple #[.agg #[d,.slice Z a n,.slice t n3 k,.slice D n4 N],true]) ?_ rfl ⟨bZ.out _ _ bT.out rfl,bD⟩;exact b4 (p:=4) (u:=5) (ad:=⟨w.heap.size+1,0,none⟩) (v:=.agg #[d,.slice Z a n,.slice t n3 k,.slice D n4 N]) rfl Qe (x3 (T:=79) (cs:=[.int .i64 d,.slice Z a n,.slice t n3 k,.slice D n4 N]) (bS _) (U _) J)
   obtain⟨z,hz⟩:∃z,(y0::Y)[i]?=some z:=⟨_,h' (by have h1:=w6 List.length aT.out;rw[sA]at h1;rw[h1,y'];have:=aA.out;omega)⟩;have cG:=k3 hz;have bO:(x0::l0)[i]?=some z.mx:=by rw[<-aT.out,C2,hz];rfl
   have K:=aI.out _ (k3 bO);have cM:l0[i-1]?=some z.mx:=by obtain⟨j,rfl⟩:∃j,i=j+1:=⟨i-1,Qa⟩;rwa [p0]at bO
   have aS:=w0 (Jc f x0 l0 cM);rw[show i-1+1=i by omega,<-hI.out.2]at aS;have aB:=w0 (bN.2 _ cG);obtain⟨b',o',e',-,s⟩:=bN.1 i z hz;obtain⟨rfl,rfl⟩:b=b'/\o=o':=by cases e';exact⟨rfl,rfl⟩
   have f0:=s 0 _ rfl;have f1:=s 1 _ rfl;have f2:=s 2 _ rfl;have f3:=s 3 _ rfl;obtain⟨A6,c6,m,E,A8,n8,c8,A9,n9,c9⟩:=z;simp only[CoR.mx]at K aB f0 f1 f2 f3;have aG:m.length=a:=K.mix.len;have bX:=K.mix.d1;have aV:=K.dK;have bK:ZK 3840000 m:=fun x hx=>by have:=K.mix.nn x hx;have:=K.dK;simp only at*;omega
   rw[aG]at f1;rw[w7]at f0;simp only at bX aV;have bA:=w0 fun W (q:QB w W)(hM:At 1 Zc W Z R)=>aK.out Z R n W q hM aF aR;have bB:=w0 fun W (q:QB w W)(hM:At 1 Zc W A6 m)=>aK.out A6 m c6 W q hM aG bK;have bU:=aN.out R aF aR;have bV:=aN.out m aG bK;have bJ:(dotL f m*d).natAbs<=4*(400*3840000)*3840000:=by rw[eQ];exact gK bV Qa
   have bI:(dotL f R*E).natAbs<=4*(400*3840000)*3840000:=by rw[eQ];exact gK bU Qa
   have X:=w0 (show dotL f m*d<dotL f R*E->(E,m)=leastC f x0 (l0.take i)from fun h=>by rw[aS.out];exact(Zde h).symm);have V:=w0 (show ¬dotL f m*d<dotL f R*E->(d,R)=leastC f x0 (l0.take i)from fun h=>by rw[aS.out];exact(q' h).symm);clear aS;obtain⟨P5,bQ⟩:=Qu (dotL f R);obtain⟨P6,bR⟩:=Qu (dotL f m);rw[bQ]at bA bI X V;rw[bR]at bB bJ X V;obtain⟨X5,aL⟩:=Qu (P5*E);obtain⟨X6,aM⟩:=Qu (P6*d);have dA:IntKind.i64.wrap (P5*E)=X5:=by rw[aL];rw[aL]at bI;exact B3 _ Qa
   have dB:IntKind.i64.wrap (P6*d)=X6:=by rw[aM];rw[aM]at bJ;exact B3 _ Qa
   rw[aL,aM]at X V;have C:b<wr.heap.size:=by have:=S.size;have:=M.out;have:=ZG g;omega
   have cX:(i:Int)<(L:Int):=Qa
   have aE:=w0 O;have cA:=aF;have cC:=aG;have cE:=hI.out.1;clear bQ bR aL aM bI bJ bU bV aR bK bW aU bX aV s e' aF aG G K bO hz bH aW aN aK;go_wp2;refine p5 Qb ?_;apply ES w;case hB=>kernel_rfl
   case hB'|hS|hN=>kernel_rfl
   case hw=>exact O
   case hq=>
    intro u H cU;have D7:=bk4 (Zx H g);have cO:=(H.cell (show (⟨b,o+i*4,none⟩:Addr).block<_ from C)).trans f0;have cP:=(H.cell (show (⟨b,o+i*4+1,none⟩:Addr).block<_ from C)).trans f1;have z1:=h8 C H.size;have cJ:=w0 fun(y:Grew u)=>bA.out y.val (via aE.out (via H y.ok)) (F.out.below (via H y.ok));have cK:=w0 fun(y:Grew u)=>bB.out y.val (via aE.out (via H y.ok)) (aB.out.below (via H y.ok));simp only[mixL,yieldsC,l5,n7,Nat.reduceAdd,Nat.reduceBEq,m',o7,sS,p',k7,nK,ZyJ,ZyI,r5,Nat.reduceEqDiff];repeat (go_big_quiet_step ((go_at_call 32;first|with_reducible exact Grew.call (cJ.out _)|with_reducible exact Grew.call (cK.out _))))
    exact ZyG rfl
   intro u H;have g0:=(H.cell (show (⟨b,o+i*4,none⟩:Addr).block<_ from C)).trans f0;have g1:=(H.cell (show (⟨b,o+i*4+1,none⟩:Addr).block<_ from C)).trans f1;have g2:=(H.cell (show (⟨b,o+i*4+2,none⟩:Addr).block<_ from C)).trans f2;have g3:=(H.cell (show (⟨b,o+i*4+3,none⟩:Addr).block<_ from C)).trans f3;have z1:=h8 C H.size;have bP:=Zx H g;have bF:Below b7 w2 u:=S.trans (H.mono (by have:=ZG g;omega));clear f0 f1 f2 f3 H g S aZ C aE O bA bB F aB hI;by_cases cN:X6<X5
   .have aH:=w0 (X.out Qa);clear X V;go_wp2_with (refine P0 Qh (.tmp 7) (.tmp 52) 79 Qh b7 [.int .i64 E,.slice A6 a c6,.slice A8 n8 c8,.slice A9 n9 c9] [.int .i64 d,.slice Z a n,.slice t n3 k,.slice D n4 N] 79 ?sp ?sq (U _) ?sb rfl (by simp[Value.oneCell']) ?_);case sp=>rfl
    case sq=>rfl
    case sb=>exact bP
    intro w8 J aO cD;have bD:Below b7 w2 w8:=by rw[<-M.out]at bF |-;exact ZS bF aO fun b e=>by cases e;exact U0 M.out
    go_wp2;go_roundw;case rel=>exact⟨i+1,⟨A6,c6,m,E,A8,n8,c8,A9,n9,c9⟩,Qa,Qa,Qj,by simp only[cC];exact J,⟨cG,aH.out⟩,bD⟩
    case measure=>exact Qv
   .have aH:=w0 (V.out Qa);clear X V;go_wp2;go_roundw;case rel=>exact⟨i+1,⟨Z,n,R,d,t,n3,k,D,n4,N⟩,Qa,Qa,Qj,by simp only[cA];exact bP,⟨cE,aH.out⟩,bF⟩
    case measure=>exact Qv
def MW(n b:Int)(w:World)(d:0<b)(s:n.natAbs<=9000000000000000000):Calls prog 33 #[n,b] w fun e f=>e=.returned (.int .i64 (n / b))/\w=f:=by
 have a:¬b=0:=Qa
 have i:(b==0)=false:=by simpa using a
 have u:(n.tdiv b).natAbs<=n.natAbs:=by rw[Int.natAbs_tdiv];exact kI _ _
 have j:IntKind.i64.wrap (n.tdiv b)=n.tdiv b:=B3 _ Qa;by_cases h:n.tmod b<0;·have r:IntKind.i64.wrap (n.tdiv b-1)=n.tdiv b-1:=B3 _ Qa;go_enter func33,ntmps33;go_wp2;go_ret;exact⟨aU (BC n b d h),rfl⟩
 .go_enter func33,ntmps33;go_wp2;go_ret;exact⟨aU (BE n b d Qa),rfl⟩
def k0(k n:Int):Int:=if k=1 then 1000*n else n
def GD{n d f a:Int} (u:0<d)(i:0<a)(h:n*a=f*d)(k:Int):k0 k n / d=k0 k f / a:=by
 have e:∀s:Int,(s*n) / d=(s*f) / a:=fun s=>by have j:(s*n*a) / (d*a)=(s*n) / d:=MC _ _ i;have r:(s*f*d) / (a*d)=(s*f) / a:=MC _ _ u;rw[<-j,<-r,eM a d,xT,h,xT]
 unfold k0;split;·exact e 1000
 .have:=e 1;rwa [Int.one_mul,Int.one_mul]at this
def Je(T Q:i')(g V C S:Nat)(n:z1)(es:e6)(k f:Int)(w:World)(hP:At 5 Pa.cs w T n)(aM:n.length=C)(hR:RightE es C)(hE:h7 w Q es)(aQ:es.length=S)(h1:1<=C)(h4:C<=4)(hk:k=0∨k=1)(N:ZK 400 (ZE n k f)) {r:Int×List Int} {q:List (Int×List Int)} (hL:P1 C es=r::q):Calls prog 12 #[.agg #[.slice T C g,.slice Q S V],.agg #[k,f]] w (Qt w (.tuple #[.int .i64 (k0 k (dotL (ZE n k f) (leastC (ZE n k f) r q).2) / (leastC (ZE n k f) r q).1),true])):=by
 have z:(ZE n k f).length=C:=by rw[<-aM];simp[ZE]
 have aK:=w0 fun x (hb:QB w x)=>FE T Q g V C S n k f x (hP.below hb) aM Qa hk;obtain⟨l,aH⟩:=Qu (ZE n k f);rw[aH]at aK z N |-;have W:=w0 fun A c x (hb:QB w x)(hA:At 1 Zc x A l)=>Jd T Q A g V c C S es l x hR (hE.below hb) aQ h1 h4 hA z N;have aR:∀x,(sizeOf 79).run prog x=.ok 4 x:=fun x=>Qb
 obtain⟨gm,-⟩:=pU l q r fun x hx=>by have:=(vJ hR h4 (c:=x) (by rw[hL];exact hx)).mix.d1;omega
 have F:=vJ hR h4 (c:=leastC l r q) (by rw[hL];exact gm);obtain⟨B,aE⟩:=Qu (leastC l r q);rw[aE]at F gm;have W:=w0 fun A c x (hb:QB w x)(hA:At 1 Zc x A l)=>((W.out A c x hb hA).mono (R':=fun e w'=>(∃A k A3 n3 c3 A4 n4 c4,e=.returned (.tuple #[.agg #[B.1,.slice A C k,.slice A3 n3 c3,.slice A4 n4 c4],true])/\At 1 Zc w' A B.2)/\QB x w') fun e w' h=>(by rw[hL]at h;rw[<-aE];exact h));rw[aE];have aL:ZK 3840000 B.2:=fun x hx=>by have:=F.mix.nn x hx;have:=F.dK;omega
 have aO:=jQ (X:=400) (Y:=3840000) l B.2 C N aL;rw[e0 Qa,e0 (by have:=F.mix.len;omega)]at aO;have aP:=N2 (400*3840000) h4;have aF:=w0 fun sA sc A c x (hA:At 1 Zc x sA l)(hM:At 1 Zc x A B.2)=>(by have h:=sP sA A l B.2 sc c x hA hM (by rw[z,F.mix.len]) Qa 400 3840000 Qc N aL;rw[z,F.mix.len]at h;exact h);have aS:=F.mix.d1;have aT:=F.dK;clear hR hE aQ h1 h4 N hL hP aM z aH gm F aL aE;obtain⟨D,hD⟩:=Qu (dotL l B.2);rw[hD]at aF aO |-;obtain⟨d,m⟩:=B;simp only at W aF aS aT |-;have aW:IntKind.i64.wrap (1000*D)=1000*D:=B3 _ Qa;have aI:=w0 fun x=>MW D d x Qa Qa;have aJ:=w0 fun x=>MW (1000*D) d x Qa Qa;have H:=w0 (show k0 k D=if k=1 then 1000*D else D from rfl);obtain⟨R,aG⟩:=Qu (k0 k D);rw[aG]at H |-;clear hD aG aP;by_cases O:k=1
 .have aU:(k==1)=true:=by simpa using O
  obtain rfl:1000*D=R:=by have:=H.out;rw[Zde O]at this;exact this.symm
  clear H hk O aI;go_enter func12,ntmps12;go_wp2_with (first
   |(go_at_call 30;refine(aK.out _ Qi).mono ?_;rintro e w7 ⟨⟨sA,sc,rfl,hO⟩,J⟩;have M:=w0 (e7 hO);clear hO;(have s:=Zx J (show ((w.alloc (.cells #[.slice T C g,.slice Q S V] 25 (0,0))).alloc (.cells #[.int .i64 k,.int .i64 f] 27 (0,0))).heap[w.heap.size]?=some (.cells #[.slice T C g,.slice Q S V] 25 (0,0))by exact Qs));(have u:=Zx J (show ((w.alloc (.cells #[.slice T C g,.slice Q S V] 25 (0,0))).alloc (.cells #[.int .i64 k,.int .i64 f] 27 (0,0))).heap[w.heap.size+1]?=some (.cells #[.int .i64 k,.int .i64 f] 27 (0,0))by exact Qs));(have a:=via (by go_grown:QB w ((w.alloc (.cells #[.slice T C g,.slice Q S V] 25 (0,0))).alloc (.cells #[.int .i64 k,.int .i64 f] 27 (0,0)))) J);have K:=bk2 s;(have L:=bk2 u))|(go_at_call 31;refine(W.out _ _ _ a M.out).mono ?_;rintro e p ⟨⟨A7,k7,A8,n8,k8,A9,n9,k9,rfl,G⟩,E⟩;have I:=w0 G;clear G;replace M:=w0 (M.out.below E);have s:=Zx E s;have u:=Zx E u;have a:=via a E;clear K L;have K:=bk2 s;(have L:=bk2 u))|(refine P0 Qh (.tmp 7) (.tmp 17) 79 Qh p.heap.size [.int .i64 d,.slice A7 C k7,.slice A8 n8 k8,.slice A9 n9 k9] [.int .i64 0,.slice none 0 0,.slice none 0 0,.slice none 0 0] 79 ?sp ?sq (aR _) ?sb rfl (by simp[Value.oneCell']) ?_));case sp=>rfl
  case sq=>rfl
  case sb=>exact ZA _ _ rfl
  intro w9 U y aB;have j:Below p.heap.size p w9:=ZS (ZC _ _) y (fun b e=>by cases e;exact sW _);obtain⟨b2,Z⟩:=Qu p.heap.size;rw[Z]at U |-;have s:=Zx j s;have u:=Zx j u;have a:=via a j;clear K L;have K:=bk2 s;have L:=bk2 u;clear y aB Z;replace M:=w0 (M.out.below j);replace I:=w0 (I.out.below j);have t:=bk4 U;go_wp2_with (first|(go_at_call 33;first|(refine(aI.out _).mono ?_;rintro e aN ⟨rfl,rfl⟩)|(refine(aJ.out _).mono ?_;rintro e aN ⟨rfl,rfl⟩))|(go_at_call 32;refine(aF.out _ _ _ _ _ M.out I.out).mono ?_;rintro e aV ⟨rfl,i⟩;have U:=Zx i U;have s:=Zx i s;have u:=Zx i u;have a:=via a i;clear K L;have K:=bk2 s;have L:=bk2 u;clear t;(have t:=bk4 U)));go_ret2;exact⟨rfl,a⟩
 .have aU:(k==1)=false:=by simpa using O
  obtain rfl:D=R:=by have:=H.out;rw[q' O]at this;exact this.symm
  clear H hk O aJ;go_enter func12,ntmps12;go_wp2_with (first
   |(go_at_call 30;refine(aK.out _ Qi).mono ?_;rintro e w7 ⟨⟨sA,sc,rfl,hO⟩,J⟩;have M:=w0 (e7 hO);clear hO;(have s:=Zx J (show ((w.alloc (.cells #[.slice T C g,.slice Q S V] 25 (0,0))).alloc (.cells #[.int .i64 k,.int .i64 f] 27 (0,0))).heap[w.heap.size]?=some (.cells #[.slice T C g,.slice Q S V] 25 (0,0))by exact Qs));(have u:=Zx J (show ((w.alloc (.cells #[.slice T C g,.slice Q S V] 25 (0,0))).alloc (.cells #[.int .i64 k,.int .i64 f] 27 (0,0))).heap[w.heap.size+1]?=some (.cells #[.int .i64 k,.int .i64 f] 27 (0,0))by exact Qs));(have a:=via (by go_grown:QB w ((w.alloc (.cells #[.slice T C g,.slice Q S V] 25 (0,0))).alloc (.cells #[.int .i64 k,.int .i64 f] 27 (0,0)))) J);have K:=bk2 s;(have L:=bk2 u))|(go_at_call 31;refine(W.out _ _ _ a M.out).mono ?_;rintro e p ⟨⟨A7,k7,A8,n8,k8,A9,n9,k9,rfl,G⟩,E⟩;have I:=w0 G;clear G;replace M:=w0 (M.out.below E);have s:=Zx E s;have u:=Zx E u;have a:=via a E;clear K L;have K:=bk2 s;(have L:=bk2 u))|(refine P0 Qh (.tmp 7) (.tmp 17) 79 Qh p.heap.size [.int .i64 d,.slice A7 C k7,.slice A8 n8 k8,.slice A9 n9 k9] [.int .i64 0,.slice none 0 0,.slice none 0 0,.slice none 0 0] 79 ?sp ?sq (aR _) ?sb rfl (by simp[Value.oneCell']) ?_));case sp=>rfl
  case sq=>rfl
  case sb=>exact ZA _ _ rfl
  intro w9 U y aB;have j:Below p.heap.size p w9:=ZS (ZC _ _) y (fun b e=>by cases e;exact sW _);obtain⟨b2,Z⟩:=Qu p.heap.size;rw[Z]at U |-;have s:=Zx j s;have u:=Zx j u;have a:=via a j;clear K L;have K:=bk2 s;have L:=bk2 u;clear y aB Z;replace M:=w0 (M.out.below j);replace I:=w0 (I.out.below j);have t:=bk4 U;go_wp2_with (first|(go_at_call 33;first|(refine(aI.out _).mono ?_;rintro e aN ⟨rfl,rfl⟩)|(refine(aJ.out _).mono ?_;rintro e aN ⟨rfl,rfl⟩))|(go_at_call 32;refine(aF.out _ _ _ _ _ M.out I.out).mono ?_;rintro e aV ⟨rfl,i⟩;have U:=Zx i U;have s:=Zx i s;have u:=Zx i u;have a:=via a i;clear K L;have K:=bk2 s;have L:=bk2 u;clear t;(have t:=bk4 U)));go_ret2;exact⟨rfl,a⟩
end Go.Proofs
namespace Go.Proofs
open Go.RowKit
variable {k d:Int}
def GF{n:Int} (a:0<d):X2 k n d=k0 k n / d:=by
 rw[D' _ _ _ a];unfold k0;split;·rw[eM]
 .rfl
def MX:∀(xs:aF) (W:L') (x:Ex) (i:Nat),W.length=xs.length->putsL (xs++[x]) (W++[0]) i=putsL xs W i|[],[],x,i,_=>by simp[putsL]|[],_::_,x,i,h=>by simp at h|_::_,[],x,i,h=>by simp at h|y::xs,w::W,x,i,h=>by simp only[hP,putsL];rw[MX xs W x i (by simpa using h)]
def MY:∀(xs:aF) (W:L') (x:Ex),W.length=xs.length->spentL (xs++[x]) (W++[0])=spentL xs W|[],[],x,_=>by simp[spentL]|[],_::_,x,h=>by simp at h|_::_,[],x,h=>by simp at h|y::xs,w::W,x,h=>by simp only[hP,spentL];rw[MY xs W x (by simpa using h)]
def Jf{f:z1} {l:e6} (hB:BookR f l) (z:f.length<=4) {s:ByteArray} (q:hT s.data.toList=true) {g:Int} (n:hU k g=0) {m:L'} {p:Prf} (h:solvedL f.length (exs l) (ZE f k g)=some (m,d,p)) {v:Int} (t:X2 k (dotL (ZE f k g) m) d=v):E5 f l s k g v p.den p.lev p.W=0/\vE f l s k g v p.den p.lev p.W=0/\(E5 f l s k g (v+1) p.den p.lev p.W=24∨E5 f l s k g (v+1) p.den p.lev p.W=2)/\∀e x,exs e=exs l++[x]->BookR f e->E5 f e s k g v p.den p.lev (p.W++[0])=0:=by
 have a:=GB hB.right hB.n1 z (pC _ _ _) (hB.worths k g) h;have V:=(kS.1 n).1;obtain⟨G,H,Q,X⟩:=EA hB V h;rw[t]at G H Q X;have S:∀i,i<f.length->p.lev<=(ZE f k g).getD i 0*p.den+putsL (exs l) p.W i:=fun i K=>by have:=s5.1 a.holds i (by rw[pC];exact K);unfold k6 at this;omega
 have Y:=a.mix.d1;have R:=a.wt.d1;have C:cG l.length p.den p.lev p.W=0:=iT.2 a.wt;refine⟨xO hB q n ⟨G,H⟩ a.wt S Q,?_,?_,fun e x J I=>?_⟩
 .unfold vE;rw[q' (by rw[q];decide),q' (by simpa using n),q' (by rw[dB.2 ⟨G,H⟩];decide),q' (by simpa using C),Zde a.holds,a.bound];dsimp only;rw[q'];have U:=eZ (dotL (ZE f k g) m) d Qa;have Z:0<d / lowG (dotL (ZE f k g) m) d:=rX Qa Qa U.2.2;unfold X2 at t;have:=Int.ediv_mul_le (if k=1 then dotL (ZE f k g) m / lowG (dotL (ZE f k g) m) d*1000 else dotL (ZE f k g) m / lowG (dotL (ZE f k g) m) d) (b:=d / lowG (dotL (ZE f k g) m) d) Qa;rw[t]at this;split at this;·rw[Zde (by assumption)];omega
  .rw[q' (by assumption)];omega
 .by_cases T:ZY (v+1) 0 1000=true
  .refine .inl ?_;have F:jB f l s k g (v+1)=0:=by unfold jB;rw[bB];simp only[ZBq,ZBH,ZyH,dX,dY];exact⟨hY.2 hB,(cT Qc).2 q,n,(cT Qc).2 T⟩
   unfold E5;rw[q' (by simpa using F),q' (by simpa using C),Zde a.holds];have M:v=k0 k (p.lev-spentL (exs l) p.W) / p.den:=by rw[<-t,GF Qa];exact GD Qa Qa a.same.symm k
   have j:=Int.lt_ediv_add_one_mul_self (k0 k (p.lev-spentL (exs l) p.W)) (b:=p.den) Qa;rw[<-M]at j;have u:W6 k (p.lev-spentL (exs l) p.W) p.den (v+1)=true:=by
    unfold W6;unfold k0 at j;split<;>rename_i B;·rw[Zde B]at j;simp;omega
    .rw[q' B]at j;simp;omega
   rw[u];rfl
  .refine .inr ?_;have F:jB f l s k g (v+1)=2:=by
    unfold jB;have O:ZY (v+1) 0 1000=false:=by simpa using T
    rw[hY.2 hB,q,n,O];rfl
   unfold E5;rw[Zde (by rw[F];decide),F]
 .have r:p.W.length=(exs l).length:=by rw[Z7];exact a.wt.len
  have L:e.length=l.length+1:=by have:=w6 List.length J;rw[hK,Z7,Z7]at this;exact this
  refine xO I q n ⟨G,H⟩ ⟨by rw[hK,a.wt.len,L];rfl,a.wt.d1,a.wt.dK,a.wt.lK,fun y E=>?_⟩ (fun i K=>?_) ?_
  .rcases C1.1 E with E|E;·exact a.wt.w y E
   .rw[y2.1 E];decide
  .rw[J,MX _ _ _ _ r];exact S i K
  .rw[J,MY _ _ _ r];exact Q
variable {P:aA} {f:aE} {o:Oper} {w:World}
def GG(p q:Operand)(t:aN)(F:o.op=.store t p q)(b:Nat)(c cs:hD)(T:aN)(l:f p=.pointer (some b))(m:f q=.agg c.toArray)(r:(sizeOf t).run P w=.ok c.length w)(g:w.heap[b]?=some (.cells cs.toArray T))(E:cs.length=c.length)(C:∀u∈c,u.oneCell'=true):∃h,(execOp f o).run P w=.ok .skip h/\OnlyB b w h/\w.heap.size=h.heap.size/\h.heap[b]?=some (.cells c.toArray T):=by
 obtain⟨h,G,H,i,I⟩:=oT (P:=P) b T c 0 cs w g Qa C;have a:∀k,k≠b->h.heap[k]?=w.heap[k]?:=fun k s=>by
  by_cases j:k<w.heap.size;·exact i.block k j (fun e=>s (R' e))
  .rw[dQ Qa,dQ Qa]
 refine⟨h,?_,⟨fun n J=>⟨i.os,i.tape,i.output,i.size,fun k s=>a k Qa⟩,a⟩,I.symm,?_⟩
 .unfold execOp;have B:(storeVar t ⟨b,0,none⟩ (.agg c.toArray)).run P w=.ok () h:=by unfold storeVar;simp only[aD,r,aI,Value.cells,hM,ne_eq,jK,ZyI];exact G
  simp only[F,Instr.storeAt,Instr.sureAddr,l,m,aD,aP,aI,B]
 .rw[H];congr 2;apply w6;simp[E]
def MZ{K:cC} (p q:Operand)(t:aN)(r:o.op=.store t p q)(b:Nat)(g cs:hD)(T:aN)(m:f p=.pointer (some b))(hq:f q=.agg g.toArray)(e:(sizeOf t).run P w=.ok g.length w)(l:w.heap[b]?=some (.cells cs.toArray T))(j:cs.length=g.length)(i:∀u∈g,u.oneCell'=true)(h:∀a,OnlyB b w a->a.heap[b]?=some (.cells g.toArray T)->K a):∃a,(execOp f o).run P w=.ok .skip a/\K a:=by obtain⟨a,s,B,-,C⟩:=GG p q t r b g cs T m hq e l j i;exact⟨a,s,h a B C⟩
def M5{b:z1} {e g:e6} (h:e.map En.sig=g.map En.sig)(k a:Int):N0 b e k a=N0 b g k a:=by unfold N0;rw[FG h]
def HD{base n sz b:Nat} {e T:aN} {v:Value} {m:hD} {cs:bJ} (h:w.ownsRow base e sz v n m)(l:w.heap[b]?=some (.cells cs T))(u:T≠e):∀r,v.ownBlock=some r->r≠b:=by
 intro r i;rcases h.2 with⟨rfl,-⟩|⟨g,j,s,rfl,-,a,-⟩;·cases i
 .obtain rfl:g=r:=R' i;rintro rfl;rw[l]at a;cases a;exact u rfl
end Go.Proofs
