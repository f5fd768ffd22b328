import Derived.Test.YthmhdmfahlkpmaaGreatDoorMg3
import Derived.Handy
import Derived.WalkLawsBesides
import Derived.WalkSpells
import Derived.Lib.ConvBytes
import Derived.Lib.Hide
import Derived.StillTail
import Derived.BigQuiet
import Derived.RangeFuncKeeps
import Derived.Deep.OwnRows
import Derived.Laws.AppendOwnNone
import Derived.Deep.AppendLies
set_option linter.all false
def Qu.{u}{α:Sort u}(a:α):∃x,a=x:=⟨a,rfl⟩
def Qs{P:Prop}(h:P:=by (repeat (first|assumption|(refine ZA _ _ ?_;(simp;done))|refine ZD ?_|refine Zz ?_ _|refine ZB ?_ (by simp<;>omega) _))):P:=h
def Qr{P:Prop}(h:P:=by trivial):P:=h
def Qq{P:Prop}(h:P:=by unfold maxLen;omega):P:=h
def Qm{P:Prop}(h:P:=by decide+kernel):P:=h
def Qj{P:Prop}(h:P:=by go_num):P:=h
def Qi{P:Prop}(h:P:=by go_grown):P:=h
def Qf{P:Prop}(h:P:=by simp<;>omega):P:=h
set_option maxRecDepth 100000
set_option maxHeartbeats 16000000
namespace Go
def w6:=@congrArg
def ZyG:=@wpQuiet_nil
def r3:=@bodyPost_ret
def p5:=@wp_region_any
def n9:=@info_parts
def fF:=@mem_ready
def tA:=@lt_of_block
def gE:=@World.ownsRow_nil
def X0:=@wpList_append_own
def hJ:=@World.size_alloc
def dX:=@forall_eq_or_imp
def dY:=@forall_eq
def R0:=@getD_set_ne
def mB:=@run_store
def D8:=@wpList_plain
def jK:=@not_true_eq_false
def oO:=@Bool.and_true
def kF:=@heap_alloc_new
def kG:=@List.map_id
def kH:=@List.map_congr_left
def kI:=@Nat.div_le_self
def uP:=@Int.natCast_zero
def uQ:=@Int.natCast_one
def uR:=@Int.cast_ofNat_Int
def oQ:=@List.take_set
def qQ:=@World.cell?_alloc_at
def qR:=@RowKit.Below.heap_alloc
def HR:=@Int.add_assoc
def qS:=@Int.mul_le_mul_of_nonneg_left
def qT:=@Nat.pow_succ
def qU:=@Nat.one_mul
def qV:=@List.mapM_toArray
def qW:=@map_eq_pure_bind
def wE:=@decide_eq_decide
def AS:=@Int.mul_tdiv_add_tmod
def AT:=@Int.mul_add_ediv_left
def AU:=@Int.ediv_eq_zero_of_lt
def AV:=@Lib.bytesWorld_size
def AW:=@Lib.bytesWorld_at_old
def AX:=@Region.noSelect_spec
def JE:=@getD_replicate_false
def AY:=@Nat.shiftRight_eq_div_pow
def AZ:=@Nat.mod_two_eq_zero_or_one
def A0:=@Nat.le_mul_of_pos_left
def gS:=@RowKit.Below.heap_setCell
def l3:=@RowKit.Below.refl
def p':=@Bool.false_or
def k7:=@Bool.true_or
def rP:=@Int.le_refl
def xT:=@Int.mul_assoc
def eM:=@Int.mul_comm
def jL:=@Int.mul_ediv_cancel'
def PL:=@Int.mul_ediv_cancel_left
def eQ:=@Int.natAbs_mul
def B3:=@IntWalk.i64_in
def w0:=@Lib.hid
def E8:=@List.any_append
def bY:=@List.any_eq_false
def h0:=@List.any_eq_true
def b7:=@List.append_assoc
def iO:=@List.append_toArray
def hP:=@List.cons_append
def kJ:=@List.drop_eq_getElem_cons
def r4:=@List.drop_succ_cons
def e5:=@List.drop_zero
def eX:=@List.eq_nil_of_length_eq_zero
def cJ:=@List.filter_cons
def rW:=@List.flatMap_cons
def hW:=@List.getD_cons_succ
def r1:=@List.getD_cons_zero
def D1:=@List.getD_eq_getElem?_getD
def aW:=@List.getElem?_append_left
def bA:=@List.getElem?_append_right
def p0:=@List.getElem?_cons_succ
def B4:=@List.getElem?_cons_zero
def x4:=@List.getElem?_drop
def h':=@List.getElem?_eq_getElem
def p1:=@List.getElem?_eq_some_iff
def C2:=@List.getElem?_map
def gH:=@List.getElem?_replicate
def dC:=@List.getElem?_set
def eY:=@List.getElem?_take
def D2:=@List.getElem_mem
def gJ:=@List.getElem_of_mem
def y':=@List.length_cons
def sA:=@List.length_map
def Q3:=@List.length_take
def x0:=@List.map_append
def dZ:=@List.map_map
def uC:=@List.mem_append_left
def A5:=@List.mem_cons_of_mem
def r2:=@List.mem_iff_getElem?
def b3:=@List.mem_map
def kK:=@List.mem_or_eq_of_mem_set
def w5:=@List.mem_range
def e9:=@List.nil_append
def ZBH:=@List.not_mem_nil
def cO:=@List.range_succ
def E9:=@List.replicate_succ
def iA:=@List.set_append_right
def hM:=@List.size_toArray
def aS:=@List.sum_cons
def w9:=@List.take_add_one
def x1:=@List.take_length
def e0:=@List.take_of_length_le
def sT:=@List.take_succ_cons
def F0:=@List.take_succ_eq_append_getElem
def j0:=@List.take_zero
def Q1:=@Nat.add_mul
def eE:=@Nat.add_sub_cancel
def D4:=@Nat.lt_or_ge
def Dn:=@Nat.min_eq_left
def gK:=@Nat.mul_le_mul
def N2:=@Nat.mul_le_mul_right
def w8:=@Nat.mul_one
def kL:=@Nat.pow_le_pow_right
def x8:=@Nat.succ_mul
def iP:=@Nat.two_pow_pos
end Go
namespace Go.Proofs
open Tryz
open Go.RowKit
abbrev _root_.hR:=List UInt8
variable {l:hR} {k:Nat}
def aU{k:IntKind} {a b:Int} (h:a=b):Ending.returned (.int k a)=.returned (.int k b):=by rw[h]
def BC(n b:Int)(a:0<b)(h:n.tmod b<0):n.tdiv b-1=n / b:=by
 have j:=AS n b;have p:-b<n.tmod b:=by have:=Int.lt_tmod_of_pos n a;omega
 rw[eq_comm];have:n=b*(n.tdiv b-1)+(n.tmod b+b):=by rw[Int.mul_sub];omega
 rw[this,AT _ _ Qa,AU Qa Qa];rw[<-this];omega
def BE(n b:Int)(a:0<b)(h:0<=n.tmod b):n.tdiv b=n / b:=by
 have j:=AS n b;have p:=Int.tmod_lt_of_pos n a;rw[eq_comm];have:n=b*(n.tdiv b)+(n.tmod b):=Qa
 rw[this,AT _ _ Qa,AU Qa Qa];rw[<-this];omega
def jM(c:Int):Bool:=(decide (97<=c)&&decide (c<=122))||(decide (65<=c)&&decide (c<=90))
def cY(i:Nat)(c:Int):Bool:=jM c||(decide (i≠0)&&(decide (c=45)||(decide (48<=c)&&decide (c<=57))))
def fY(l:hR):Bool:=(List.range l.length).all fun i=>cY i ((l.getD i 0).toNat:Int)
def hT(l:hR):Bool:=decide (1<=l.length)&&decide (l.length<=12)&&fY l
def BF(l:hR)(h:∀j,j<l.length->cY j ((l.getD j 0).toNat:Int)=true):fY l=true:=by unfold fY;rw[bP];intro j p;exact h j (w5.1 p)
def TL(l:hR)(j:Nat)(p:j<l.length)(h:cY j ((l.getD j 0).toNat:Int)=false):fY l=false:=by unfold fY;rw[List.all_eq_false];exact⟨j,w5.2 p,by rw[h];decide⟩
def wF{c:UInt8} (h:Hid (∀j,j<k->cY j ((l.getD j 0).toNat:Int)=true))(q:Hid (l.getD k 0=c))(p:cY k (c.toNat:Int)=true):Hid (∀j,j<k+1->cY j ((l.getD j 0).toNat:Int)=true):=by
 intro j u;by_cases e:j=k;·subst e;rw[q.out];exact p
 .exact h.out j Qa
def wG{n:Nat} {c:UInt8} (p:Hid (l.length=n))(a:k<n)(j:Hid (l.getD k 0=c))(h:cY k (c.toNat:Int)=false):hT l=false:=by unfold hT;rw[TL l k (by rw[p.out];exact a) (by rw[j.out];exact h)];simp
def wH(k:Nat)(c:Int)(h:(97<=c/\c<=122)∨(65<=c/\c<=90)∨(k≠0/\(c=45∨(48<=c/\c<=57)))):cY k c=true:=by unfold cY jM;simp only[fA,aY,h6];omega
def wI(k:Nat)(c:Int)(h:¬((97<=c/\c<=122)∨(65<=c/\c<=90)∨(k≠0/\(c=45∨(48<=c/\c<=57))))):cY k c=false:=by rw[<-Bool.not_eq_true];unfold cY jM;simp only[fA,aY,h6];omega
def TM(l:hR)(n:Nat)(j:l.length=n)(h:fY l=true):hT l=(!l.isEmpty&&decide ((n:Int)<=12)):=by unfold hT;rw[h,oO,<-j];cases l<;>simp;omega
def fW{a b:Bool} (h:a=b):Ending.returned a=.returned b:=by rw[h]
abbrev _root_.QB(w x:World):Prop:=Below w.heap.size w x
abbrev _root_.Qt(w:World)(v:Value)(e:Ending)(x:World):Prop:=e=.returned v/\Below w.heap.size w x
def Ix(s:ByteArray)(w:World)(b:s.size<=9223372036854775807):Calls prog 24 #[.string s] w (Qt w (hT s.data.toList)):=by
  have q:=fun W:World=>Lib.run_convert_string_bytes (P:=prog) W 9 110 5 s underlying9 underlying110 underlying5;have H:Hid (QB w (Lib.bytesWorld w 5 s)):=⟨rfl,rfl,rfl,by rw[AV];omega,fun k I=>AW w 5 s k I⟩;have h:Hid (s.data.toList.length=s.size):=by simp[Hid]
  go_enter func24,ntmps24;go_wp2;clear q;go_loop [9] (fun i=>∃k:Nat,k<=s.size/\i=.int .i64 k/\Hid (∀j,j<k->cY j ((s.data.toList.getD j 0).toNat:Int)=true))(fun i=>s.size-(intOf i).toNat);case atStart=>exact⟨0,k2 _,rfl,fun j F=>Qa⟩
  case round=>
    obtain⟨k,I,rfl,z⟩:=hrel;by_cases y:k<s.size
    . obtain⟨c,D⟩:∃c:UInt8,s.data.toList.getD k 0=c:=⟨_,rfl⟩;have p:=Lib.bytesWorld_cell w 5 s k y;rw[D]at p;have u:=w0 D;clear D;have J:(0:Int)<=(c.toNat:Int):=Qa
      go_wp2;all_goals first
        |(exfalso;simp at*;omega)
        | (go_round;case rel=>exact⟨k+1,Qa,Qj,wF z u (wH _ _ (by simp at*;omega))⟩
           case measure=>simp[intOf];omega)|(go_ret;exact⟨fW (wG (k:=k) h y u (wI _ _ (by simp at*;omega))).symm,H.out⟩)
    . have G:k=s.size:=Qa
      subst G;by_cases L:s.toList=[];all_goals go_wp2;go_ret;refine⟨fW ?_,H.out⟩;have E:fY s.data.toList=true:=BF _ (fun j F=>z.out j (by rw[h.out]at F;exact F));rw[TM _ _ h.out E,<-ByteArray.toList_eq]<;>simp[L]
end Go.Proofs
namespace Go.Proofs
open Go.RowKit
abbrev _root_.bK:=Exit->Act->World->Prop
abbrev _root_.bL:=List Oper
variable {w:World} {P:aA} {f:FuncId} {args:bJ} {v:Value} {a:Act} {id:Nat} {Q:bK} {l:bL}
section
abbrev _root_.cC:=World->Prop
variable {P:aA} {ops:aG} {md:Region.Mode} {C:cC}
def nG(P:aA)(md:Region.Mode)(ops:aG)(C:cC)(n:Nat)(L:Array Bool->Act->Prop):Nat->Array Bool->Act->Prop|0,listed,a=>L listed a|f+1,listed,a=>Region.ready md ops listed≠[]/\∀i∈Region.ready md ops listed,i<n/\qOp P ops C i (nG P md ops C n L f (listed.setIfInBounds i true)) a
def JF{n g:Nat} {L:Array Bool->Act->Prop} {Q':bK} (b:∀j a w,C w->L j a->wpAny P md ops Q' g j a w):∀(f:Nat)(j:bM)(a:Act)(w:World),C w->nG P md ops C n L f j a->wpAny P md ops Q' (f+g) j a w|0,j,a,w,hw,h=>by rw[m'];exact b _ _ _ hw h|f+1,j,a,w,hw,h=>by rw[show f+1+g=(f+g)+1 by omega];exact⟨fun y=>absurd y h.1,fun i c=>wpOp_of_qOp hw (fun q d p u=>JF b f _ q d p u) (h.2 i c).2⟩
def TN{n i:Nat} {R:Oper} {v:Value} {L:Array Bool->Act->Prop} (g:ops[i]?=some R)(G:∀(j:Nat)(o:Oper) cs b,ops[j]?=some o->o.op≠.select cs b)(t:Region.sinkB md ops n=true)(r:Region.chainB md ops n=true)(s:n<ops.size)(U:i<n)(I:∀p a,L p a->∀j∈Region.ready md ops p,n<=j):∀(f:Nat)(p:bM)(a:Act),HeadInv md ops n p->(∀j O,ops[j]?=some O->j≠i->p.getD j true=false->(∀e∈O.after,Region.binds md e=true->e.on≠i)->R.apart ops O=true)->i∈Region.ready md ops p->YieldsIn P ops C R v a->nG P md ops C n L f (p.setIfInBounds i true) (a.put R.dst v)->nG P md ops C n L (f+1) p a:=by intro f;induction f with
 |zero=>
  intro p a E _ D d H;refine⟨fun h=>(by rw[h]at D;cases D),fun j J=>?_⟩;have z:j<n:=by
   rcases D4 j n with h|h;·exact h
   .exact absurd J (tail_waits t r s E _ i rfl U (fF.1 D).1 j h)
  refine⟨z,?_⟩;by_cases q:j=i;·subst q;exact d.qOp g H
  .have:=I _ _ H j (ready_mono J q);omega|succ f ih=>
  intro p a E u D d H;refine⟨fun h=>(by rw[h]at D;cases D),fun j J=>?_⟩;have z:j<n:=by
   rcases D4 j n with h|h;·exact h
   .exact absurd J (tail_waits t r s E _ i rfl U (fF.1 D).1 j h)
  refine⟨z,?_⟩;by_cases q:j=i;·subst q;exact d.qOp g H
  .have c:=(H.2 j (ready_mono J q)).2;obtain⟨F,O,N,S⟩:=fF.1 J;have X:∀e∈O.after,Region.binds md e=true->e.on≠i:=fun e he W A=>by have c:=S e he W;have M:=(fF.1 D).1;rw[A,getD_both M]at c;cases c
   have T:=qOp_put N (u j O N q F X) (fun cs b=>G i R cs b g) (fun cs b=>G j O cs b N) d c;have y:∀k Z,ops[k]?=some Z->k≠i->(p.setIfInBounds j true).getD k true=false->(∀e∈Z.after,Region.binds md e=true->e.on≠i)->R.apart ops Z=true:=fun k Z hk B Y K=>by
    refine u k Z hk B ?_ K;by_cases V:j=k;·subst V;exact F
    .rw[R0 true V]at Y;exact Y
   refine qOp_mono (fun x m=>ih (p.setIfInBounds j true) x (E.set J z) y (ready_mono D (s0 q)) m.1 ?_) T;rw[Array.setIfInBounds_comm _ _ q];exact m.2
def JG{n g:Nat} {E:Act->Prop} (q:Region.noSelect ops=true)(b:Region.sinkB md ops n=true)(H:Region.chainB md ops n=true)(I:n<ops.size):∀(l:bL)(k:Nat)(p:bM)(a:Act),(∀j,j<l.length->l[j]?=ops[k+j]?)->k+l.length=n->HeadInv md ops n p->Region.lexHead md ops g l.length k p=true->wpQuiet P ops C E l a->nG P md ops C n (fun p a=>Region.seqB md ops g n p=true/\E a) l.length p a
 |[],k,p,a,_,hk,_,hB,h=>by
  have:k=n:=by simpa using hk
  subst this;exact⟨by simpa [Region.lexHead] using hB,h⟩|o::l,k,p,a,hl,hk,inv,hB,h=>by
  have D:ops[k]?=some o:=by simpa using (hl 0 Qd).symm
  simp only[y',Region.lexHead,aY]at hB;obtain⟨⟨O,N⟩,F⟩:=hB;have u:k<n:=by simp only[y']at hk;omega
  have y:k∈Region.ready md ops p:=by simpa using O
  have G:qOp P ops C k (wpQuiet P ops C E l) a:=by unfold qOp;simp only[D];exact h
  obtain⟨v,R,J⟩:=yieldsIn_of_qOp D G;exact TN D (AX q) b H I u (fun z S L=>seqB_ready L.1) l.length p a inv (Region.free_spec D N) y R (JG q b H I l (k+1) _ _ (fun j U=>by have:=hl (j+1) Qk;simpa [iI,aM 1 j] using this) (by simp only[y']at hk;omega) (inv.set y u) F J)
def TO{id:Nat} {Q:bK} {a:Act} {w:World} {l:bL} (n:Nat)(c:P.follows .mixedOrders=true)(b:Region.lexTailB .any l.toArray n=true)(O:C {w with drawn:=w.drawn+1})(h:wpQuiet P l.toArray C (fun E=>∀w',C w'->wpList P l.toArray Q (l.drop n) E w') (l.take n) a):(Code.region id l.toArray true).wp P Q a w:=by
 simp only[Region.lexTailB,aY,h6]at b;obtain⟨⟨⟨⟨z,N⟩,U⟩,R⟩,y⟩:=b;have S:n<l.length:=by simpa using N
 have p:(l.take n).length=n:=Qk
 have u:(l.drop n).length=l.toArray.size-n:=Qd
 have D:HeadInv .any l.toArray n (Array.replicate l.toArray.size false):=⟨Qd,fun j X _ L=>(by rw[JE]at L;cases L),fun t _ V=>getD_in (by simpa using V) (JE _ _)⟩;have H:=JG (C:=C) (P:=P) (md:=.any) (g:=l.toArray.size-n) z U R N (l.take n) 0 _ a (fun j J=>by
  have F:j<n:=by rw[p]at J;exact J
  simp[F]) (by simpa using p) D (by rw[p];exact y) h;refine p5 c ?_;have:=JF (Q':=Q) (g:=l.toArray.size-n) (fun q E w' G I=>by have:=wpAny_of_seq (md:=.any) (Q':=Q) (l.drop n) n q E w' (fun j=>by simp[x4]) (by rw[u];exact I.1) (I.2 w' G);rwa [u]at this) _ _ _ _ O H;rw[p,show n+(l.toArray.size-n)=l.toArray.size by omega]at this;exact this
end
structure Grew (w:World) where
 val:World
 ok:QB w val
instance (w:World):Nonempty (Grew w):=⟨⟨w,l3 _ w⟩⟩
def Grew.cell(x:Grew w)(b o:Nat)(h:b<w.heap.size):x.val.cell? ⟨b,o,none⟩=w.cell? ⟨b,o,none⟩:=x.ok.cell (p:=⟨b,o,none⟩) h
def Grew.call{x:Grew w} (h:Calls P f args x.val fun e r=>e=.returned v/\Below x.val.heap.size x.val r):Calls P f args x.val fun e j=>e=.returned v/\∃y:Grew w,j=y.val:=h.mono fun _ r ⟨q,p⟩=>⟨q,⟨r,x.ok.trans (p.mono x.ok.size)⟩,rfl⟩
def Zd{x:Grew w} (h:Calls P f args x.val fun e b=>e=.returned v/\x.val=b):Calls P f args x.val fun e j=>e=.returned v/\∃y:Grew w,j=y.val:=h.mono fun _ _ ⟨q,p⟩=>⟨q,x,p.symm⟩
def via{a b:World} (h:QB w a)(j:QB a b):QB w b:=h.trans (j.mono h.size)
def JH{a:World} (h:QB w a)(o:Obj):QB w (a.alloc o):=h.alloc h.size o
def ZC(w:World)(o:Obj):QB w (w.alloc o):=(l3 _ _).alloc (sW _) o
def TP(n:Nat)(c:P.follows .mixedOrders=true)(b:Region.lexTailB .any l.toArray n=true)(h:wpQuiet P l.toArray (fun w'=>∃x:Grew w,w'=x.val) (fun j=>∀x:Grew w,wpList P l.toArray Q (l.drop n) j x.val) (l.take n) a):(Code.region id l.toArray true).wp P Q a w:=by
 refine TO (C:=fun w'=>∃x:Grew w,w'=x.val) n c b ⟨⟨_,(l3 _ w).drew⟩,rfl⟩ ?_;have e:(fun j=>∀w',(∃x:Grew w,w'=x.val)->wpList P l.toArray Q (l.drop n) j w')=(fun j=>∀x:Grew w,wpList P l.toArray Q (l.drop n) j x.val):=by funext j;exact propext ⟨fun h x=>h _ ⟨x,rfl⟩,fun h w' ⟨x,p⟩=>p▸h x⟩
 rw[e];exact h
def TQ(c:P.follows .mixedOrders=true)(b:Region.lexB .any l.toArray=true)(h:wpQuiet P l.toArray (fun w'=>∃x:Grew w,w'=x.val) (fun j=>∀x:Grew w,Q .normal j x.val) l a):(Code.region id l.toArray true).wp P Q a w:=by
 refine wp_region_quiet (C:=fun w'=>∃x:Grew w,w'=x.val) c b ⟨⟨_,(l3 _ w).drew⟩,rfl⟩ ?_;have e:(fun j=>∀w',(∃x:Grew w,w'=x.val)->Q .normal j w')=(fun j=>∀x:Grew w,Q .normal j x.val):=by funext j;exact propext ⟨fun h x=>h _ ⟨x,rfl⟩,fun h w' ⟨x,p⟩=>p▸h x⟩
 simp only[e];exact h
def B9(d:World)(n:Nat)(hm:P.follows .mixedOrders=true)(hB:Region.lexTailB .any l.toArray n=true)(hw:QB d w)(h:(∀(x:Grew w)(b o:Nat),b<w.heap.size->x.val.cell? ⟨b,o,none⟩=w.cell? ⟨b,o,none⟩)->Hid (∀x:Grew w,QB d x.val)->wpQuiet P l.toArray (fun r=>∃x:Grew w,r=x.val) (fun p=>∀j,QB w j->QB d j->w.heap.size<=j.heap.size->wpList P l.toArray Q (l.drop n) p j) (l.take n) a):(Code.region id l.toArray true).wp P Q a w:=by
 refine TP n hm hB ?_;have e:(fun p=>∀j,QB w j->QB d j->w.heap.size<=j.heap.size->wpList P l.toArray Q (l.drop n) p j)=(fun p=>∀x:Grew w,wpList P l.toArray Q (l.drop n) p x.val):=by funext p;exact propext ⟨fun h x=>h x.val x.ok (via hw x.ok) x.ok.size,fun h j q _ _=>h ⟨j,q⟩⟩
 rw[<-e];exact h (fun x=>x.cell) (fun x=>via hw x.ok)
def c8(c:World)(r:P.follows .mixedOrders=true)(n:Region.lexB .any l.toArray=true)(d:QB c w)(h:(∀(x:Grew w)(b o:Nat),b<w.heap.size->x.val.cell? ⟨b,o,none⟩=w.cell? ⟨b,o,none⟩)->Hid (∀x:Grew w,QB c x.val)->wpQuiet P l.toArray (fun s=>∃x:Grew w,s=x.val) (fun p=>∀j,QB w j->QB c j->w.heap.size<=j.heap.size->Q .normal p j) l a):(Code.region id l.toArray true).wp P Q a w:=by
 refine TQ r n ?_;have e:(fun p=>∀j,QB w j->QB c j->w.heap.size<=j.heap.size->Q .normal p j)=(fun p=>∀x:Grew w,Q .normal p x.val):=by funext p;exact propext ⟨fun h x=>h x.val x.ok (via d x.ok) x.ok.size,fun h j q _ _=>h ⟨j,q⟩⟩
 rw[<-e];exact h (fun x=>x.cell) (fun x=>via d x.ok)
end Go.Proofs
namespace Go.Proofs
open Tryz
open Go.RowKit
def ZY(n c a:Int):Bool:=decide (c<=n)&&decide (n<=a)
def eL(n c b:Int)(w:World):Calls prog 42 #[n,c,b] w fun e d=>e=.returned (ZY n c b)/\w=d:=by unfold ZY;by_cases h:c<=n<;>by_cases j:n<=b;all_goals go_enter func42,ntmps42;go_wp2;go_ret;simp_all
def SP(n b a:Int)(w:World):Calls prog 34 #[n,b,a] w fun e c=>e=.returned (ZY n b a)/\w=c:=by unfold ZY;by_cases h:b<=n<;>by_cases j:n<=a;all_goals go_enter func34,ntmps34;go_wp2;go_ret;simp_all
def unl(b:Bool)(n:Int):Int:=if b then 0 else n
def c9(b:Bool)(n:Int)(w:World):Calls prog 40 #[b,n] w fun e c=>e=.returned (unl b n)/\w=c:=by cases b;all_goals go_enter func40,ntmps40;go_wp2;go_ret;simp_all[unl]
def Z6:List Int->Int|[]=>0|e::l=>if e=0 then Z6 l else e
abbrev _root_.L':=List Int
def BG(a:L'):∀k,(∀j,j<k->a.getD j 0=0)->Z6 a=Z6 (a.drop k):=by intro k;induction k generalizing a with|zero=>intro _;simp|succ k ih=>intro h;cases a with|nil=>simp|cons e l=>
   have p:e=0:=by simpa using h 0 Qa
   simp only[Z6,p,ZyJ,r4];exact ih l (fun j q=>by simpa using h (j+1) Qa)
def TS(a:L')(k:Nat)(c:k<a.length)(h:∀j,j<k->a.getD j 0=0)(b:a.getD k 0≠0):Z6 a=a.getD k 0:=by
 rw[BG a k h,kJ c];have:a.getD k 0=a[k]:=by simp[c]
 simp only[Z6];rw[q' (by rw[<-this];exact b),this]
def TT(a:L')(h:∀j,j<a.length->a.getD j 0=0):Z6 a=0:=by rw[BG a a.length h];simp[Z6]
def BH(a:L')(b:Nat)(w:World)(J:a.length<=100)(F:∀j,j<a.length->w.cell? ⟨b,j,none⟩=some (.int .i64 (a.getD j 0))):Calls prog 38 #[.slice (some b) a.length a.length] w fun e c=>e=.returned (Z6 a)/\w=c:=by
 have y:=w0 F;clear F;go_enter func38,ntmps38;go_wp2;go_loop [7] (fun i=>∃k:Nat,k<=a.length/\i=.int .i64 k/\Hid (∀j,j<k->a.getD j 0=0))(fun i=>a.length-(intOf i).toNat);case atStart=>exact⟨0,k2 _,rfl,fun j G=>Qa⟩
 case round=>
  obtain⟨k,I,rfl,E⟩:=hrel;by_cases q:k<a.length
  .have z:=y.out k q;obtain⟨v,D⟩:=Qu (a.getD k 0);rw[D]at z;have h:=w0 D;clear D;by_cases p:v=0
   .have H : (v != 0) = false := by simp [p]
    have u:=w0 p;clear p;go_wp2;go_round;case rel=>exact⟨k+1,Qa,Qj,fun j G=>by
     by_cases e:j=k;·subst e;rw[h.out];exact u.out
     .exact E.out j Qa⟩
    case measure=>simp[intOf];omega
   .have H : (v != 0) = true := by simp [p]
    go_wp2;go_ret;exact⟨aU (by rw[TS a k q E.out (by rw[h.out];exact p)];exact h.out.symm),rfl⟩
  .go_wp2;go_ret;exact⟨aU (TT a (fun j G=>E.out j Qa)).symm,rfl⟩
def iB(a b:Int)(w:World):Calls prog 38 #[.slice (some w.heap.size) 2 2] (w.alloc (.cells #[a,b] 35)) fun e c=>e=.returned (Z6 [a,b])/\w.alloc (.cells #[a,b] 35)=c:=BH [a,b] w.heap.size _ Qd (fun j h=>by rw[qQ _ _ _ _ rfl];match j,h with|0,_=>rfl|1,_=>rfl)
def P6(a b c d:Int)(w:World):Calls prog 38 #[.slice (some w.heap.size) 4 4] (w.alloc (.cells #[a,b,c,d] 35)) fun e f=>e=.returned (Z6 [a,b,c,d])/\w.alloc (.cells #[a,b,c,d] 35)=f:=BH [a,b,c,d] w.heap.size _ Qd (fun j h=>by rw[qQ _ _ _ _ rfl];match j,h with|0,_=>rfl|1,_=>rfl|2,_=>rfl|3,_=>rfl)
end Go.Proofs
namespace Go.Proofs
open Go.RowKit
def At{α:Type} (sz:Nat)(cs:α->List Value)(w:World)(A:i')(l:List α):Prop:=∀k x,l[k]?=some x->∃b o,A=some ⟨b,o,none⟩/\b<w.heap.size/\∀j v,(cs x)[j]?=some v->w.cell? ⟨b,o+k*sz+j,none⟩=some v
def At.below{α:Type} {sz:Nat} {cs:α->List Value} {w w':World} {A:i'} {l:List α} (h:At sz cs w A l)(hb:QB w w'):At sz cs w' A l:=by intro k x D;obtain⟨b,o,u,q,y⟩:=h k x D;exact⟨b,o,u,h8 q hb.size,fun j v z=>(hb.cell (p:=⟨b,o+k*sz+j,none⟩) q).trans (y j v z)⟩
def eqS(a b:ByteArray):Bool:=a.toList==b.toList
variable {b:Nat} {o:Obj} {w:World} {cs:bJ} {t:aN} {f:Nat×Nat} {v0 v1 v2 v3 v4:Value}
def Zx{W j:World} (hb:QB W j)(h:W.heap[b]?=some o):j.heap[b]?=some o:=(hb.block b (tA h)).trans h
def Zz(h:w.heap[b]?=some o)(d:Obj):(w.alloc d).heap[b]?=some o:=(qR w d b (tA h)).trans h
def ZD(h:w.heap[b]?=some o):w.drew.heap[b]?=some o:=h
def ZA(w:World)(o:Obj) {n:Nat} (h:n=w.heap.size):(w.alloc o).heap[n]?=some o:=by subst h;exact kF w o
def ZB(h:w.heap[b]?=some o) {p:Addr} (hne:b≠p.block)(u:Value):(w.setCell p u).heap[b]?=some o:=(gS w p u b hne).trans h
def gI(h:w.heap[b]?=some (.cells cs t f))(o:Nat):w.cell? ⟨b,o,none⟩=cs[o]?:=by simp[World.cell?,h]
def BA(h:w.heap[b]?=some (.cells cs t))(o:Nat):w.frozen? ⟨b,o,none⟩=false:=by simp[World.frozen?,h]
def ZH{o:Nat} {j:bJ} (h:w.heap[b]?=some (.cells cs t f))(u:Value)(y:cs.setIfInBounds o u=j):(w.setCell ⟨b,o,none⟩ u).heap[b]?=some (.cells j t f):=by
 subst y;have p:=tA h;have q:w.heap[b]=.cells cs t f:=by simpa [e3 p] using h
 show (w.heap.modify b _)[b]?=_;rw[e3 (by simpa using p),Array.getElem_modify_self,q];rfl
def ZG(h:w.heap[b]?=some o):b<w.heap.size:=tA h
def bk1(h:w.heap[b]?=some (.cells #[v0] t)):w.cell? b=some v0/\w.frozen? ⟨b,0,none⟩=false/\b<w.heap.size:=⟨gI h 0,BA h 0,ZG h⟩
def bk2(h:w.heap[b]?=some (.cells #[v0,v1] t)):w.cell? b=some v0/\w.cell? ⟨b,1,none⟩=some v1/\w.frozen? ⟨b,0,none⟩=false/\w.frozen? ⟨b,1,none⟩=false/\b<w.heap.size:=⟨gI h 0,gI h 1,BA h 0,BA h 1,ZG h⟩
def bk3(h:w.heap[b]?=some (.cells #[v0,v1,v2] t)):w.cell? b=some v0/\w.cell? ⟨b,1,none⟩=some v1/\w.cell? ⟨b,2,none⟩=some v2/\w.frozen? ⟨b,0,none⟩=false/\w.frozen? ⟨b,1,none⟩=false/\w.frozen? ⟨b,2,none⟩=false/\b<w.heap.size:=⟨gI h 0,gI h 1,gI h 2,BA h 0,BA h 1,BA h 2,ZG h⟩
def bk4(h:w.heap[b]?=some (.cells #[v0,v1,v2,v3] t)):w.cell? b=some v0/\w.cell? ⟨b,1,none⟩=some v1/\w.cell? ⟨b,2,none⟩=some v2/\w.cell? ⟨b,3,none⟩=some v3/\w.frozen? ⟨b,0,none⟩=false/\w.frozen? ⟨b,1,none⟩=false/\w.frozen? ⟨b,2,none⟩=false/\w.frozen? ⟨b,3,none⟩=false/\b<w.heap.size:=⟨gI h 0,gI h 1,gI h 2,gI h 3,BA h 0,BA h 1,BA h 2,BA h 3,ZG h⟩
def bk5(h:w.heap[b]?=some (.cells #[v0,v1,v2,v3,v4] t)):w.cell? b=some v0/\w.cell? ⟨b,1,none⟩=some v1/\w.cell? ⟨b,2,none⟩=some v2/\w.cell? ⟨b,3,none⟩=some v3/\w.cell? ⟨b,4,none⟩=some v4/\w.frozen? ⟨b,0,none⟩=false/\w.frozen? ⟨b,1,none⟩=false/\w.frozen? ⟨b,2,none⟩=false/\w.frozen? ⟨b,3,none⟩=false/\w.frozen? ⟨b,4,none⟩=false/\b<w.heap.size:=⟨gI h 0,gI h 1,gI h 2,gI h 3,gI h 4,BA h 0,BA h 1,BA h 2,BA h 3,BA h 4,ZG h⟩
def bk7{j p:Value} (h:w.heap[b]?=some (.cells #[v0,v1,v2,v3,v4,j,p] t)):w.cell? b=some v0/\w.cell? ⟨b,1,none⟩=some v1/\w.cell? ⟨b,2,none⟩=some v2/\w.cell? ⟨b,3,none⟩=some v3/\w.cell? ⟨b,4,none⟩=some v4/\w.cell? ⟨b,5,none⟩=some j/\w.cell? ⟨b,6,none⟩=some p/\w.frozen? ⟨b,0,none⟩=false/\w.frozen? ⟨b,1,none⟩=false/\w.frozen? ⟨b,2,none⟩=false/\w.frozen? ⟨b,3,none⟩=false/\w.frozen? ⟨b,4,none⟩=false/\w.frozen? ⟨b,5,none⟩=false/\w.frozen? ⟨b,6,none⟩=false/\b<w.heap.size:=⟨gI h 0,gI h 1,gI h 2,gI h 3,gI h 4,gI h 5,gI h 6,BA h 0,BA h 1,BA h 2,BA h 3,BA h 4,BA h 5,BA h 6,ZG h⟩
def k4{P:aA} {c:Code} {Q:bK} {a:Act} {w:World} (h:∀W,W=w->c.wp P Q a W):c.wp P Q a w:=h w rfl
variable {T:aN} {W:World} {B k:Nat} {l:L'}
def D3(l:L'):Array Value:=(l.map (Value.int .i64)).toArray
def ZN(T:aN)(W:World)(B:Nat)(l:L'):Prop:=W.heap[B]?=some (.cells (D3 l) T)
def BI(l:L'):(D3 l).size=l.length:=by simp[D3]
def jN(l:L')(k:Nat):(D3 l)[k]?=l[k]?.map (Value.int .i64):=by simp[D3]
def kM(l:L')(k:Nat)(x:Int):(D3 l).setIfInBounds k (.int .i64 x)=D3 (l.set k x):=by
 apply dD;intro j;rw[jN,bF,dC];simp only[BI,jN];by_cases h:k=j
 .subst h;by_cases p:k<l.length;·simp[p]
  .simp[p]
 .simp[h]
def ZN.load(h:ZN T W B l) {x:Int} (m:l[k]?=some x):W.cell? ⟨B,k,none⟩=some (.int .i64 x):=by unfold ZN at h;unfold World.cell?;rw[h];simp[jN,m]
def ZN.loadD(h:ZN T W B l)(d:k<l.length):W.cell? ⟨B,k,none⟩=some (.int .i64 (l.getD k 0)):=by rw[D1,h' d];exact h.load (h' d)
def ZN.frozen(h:ZN T W B l)(k:Nat):W.frozen? ⟨B,k,none⟩=false:=by unfold ZN at h;unfold World.frozen?;rw[h];simp
def ZN.size(h:ZN T W B l):B<W.heap.size:=(bO.1 h).1
def ZN.store(h:ZN T W B l)(k:Nat)(x:Int):ZN T (W.setCell ⟨B,k,none⟩ (.int .i64 x)) B (l.set k x):=by have j:=h.size;unfold ZN at h |-;simp only[World.setCell];rw[B0,Zde rfl,h];simp[kM]
def ZN.other(h:ZN T W B l)(p:Addr)(v:Value)(hp:p.block≠B):ZN T (W.setCell p v) B l:=by unfold ZN at h |-;rw[<-h];exact gS W p v B (fun e=>hp e.symm)
def ZN.alloc(h:ZN T W B l)(o:Obj):ZN T (W.alloc o) B l:=by have:=h.size;unfold ZN at h |-;exact(qR W o B this).trans h
def ZN.below{j:World} (h:ZN T W B l)(hb:QB W j):ZN T j B l:=by have:=h.size;unfold ZN at h |-;exact(hb.block B this).trans h
def ZN.new(W:World)(l:L'):ZN T (W.alloc (.cells (D3 l) T)) W.heap.size l:=ZA W _ rfl
def TU(n:Nat):madeCells #[.int .i64 0] n=D3 (List.replicate n 0):=by
 apply dD;intro j;rw[jN];by_cases h:j<n;·simp[madeCells,h,Nat.mod_one]
 .simp[madeCells,h]
end Go.Proofs
namespace Go.Proofs
def cmb:Nat->Nat->Nat->List (List Nat)|_,_,0=>[[]]|_,0,_+1=>[]|a,len+1,k+1=>(cmb (a+1) len k).map (a::·)++cmb (a+1) len (k+1)
def mC:Nat->List Nat->Option (List Nat)|_,[]=>none|m,x::t=>match mC (m+1) t with|some t'=>some (x::t')|none=>if x=m then none else some (List.range' (x+1) (t.length+1))
def G7:∀(a j k:Nat),j<k->cmb a j k=[]|_,_,0,h=>by omega|_,0,_+1,_=>rfl|a,j+1,k+1,h=>by simp only[cmb];rw[G7 (a+1) j k Qa,G7 (a+1) j (k+1) Qa];rfl
def wJ:∀(a j k:Nat),k<=j->(cmb a j k)[0]?=some (List.range' a k)|_,_,0,_=>by simp[cmb]|_,0,k+1,h=>by omega|a,j+1,k+1,h=>by have:=wJ (a+1) j k Qa;simp only[cmb];rw[aW (by rw[sA];exact(p1.1 this).1),C2,this];rfl
def Nn:∀(a j k:Nat),∀l∈cmb a j k,l.length=k
 |_,_,0,l,h=>by simp[cmb]at h;simp[h]|_,0,k+1,l,h=>by cases h|a,j+1,k+1,l,h=>by
  simp only[cmb,C1,b3]at h;rcases h with⟨t,p,rfl⟩|h;·rw[y',Nn (a+1) j k t p]
  .exact Nn (a+1) j (k+1) l h
def HS:∀(a j k m:Nat),m+k=a+j->∀i l,(cmb a j k)[i]?=some l->mC m l=(cmb a j k)[i+1]?
 |a,j,0,m,_,i,l,h=>by simp only[cmb]at h |-;cases i with|zero=>simp at h;subst h;rfl|succ i=>simp at h
 |_,0,k+1,m,_,i,l,h=>by simp[cmb]at h|a,j+1,k+1,m,hm,i,l,h=>by
  have u:=Nn (a+1) j k;simp only[cmb]at h |-;by_cases b:i<(cmb (a+1) j k).length;·rw[aW (by rw[sA];exact b),C2]at h;obtain⟨t,E,rfl⟩:=e'.1 h;have G:=HS (a+1) j k (m+1) Qa i t E;have z:t.length=k:=u t (k3 E);unfold mC;rw[G];cases y:(cmb (a+1) j k)[i+1]? with
   |some t'=>rw[aW (by rw[sA];exact(p1.1 y).1),C2,y];rfl|none=>
    have q:=iL.1 y;rw[bA (by rw[sA];exact q),sA,show i+1-(cmb (a+1) j k).length=0 by omega];by_cases p:a=m;·rw[Zde p,G7 (a+1) j (k+1) Qa];rfl
    .have F:k+1<=j:=by
      rcases D4 j k with D|D;·rw[G7 (a+1) j k D]at b;cases b
      .omega
     rw[q' p,wJ (a+1) j (k+1) F,z]
  .rw[bA (by rw[sA];omega),sA]at h;rw[bA (by rw[sA];omega),sA,show i+1-(cmb (a+1) j k).length=(i-(cmb (a+1) j k).length)+1 by omega];exact HS (a+1) j (k+1) m Qa _ l h
def Asc(a b:Nat):List Nat->Prop|[]=>True|x::t=>a<=x/\x<b/\Asc (x+1) b t
def Asc.mono{b:Nat}:∀{l:y0} {a a':Nat},a'<=a->Asc a b l->Asc a' b l|[],_,_,_,_=>trivial|_::_,_,_,h,hl=>⟨h9 h hl.1,hl.2⟩
def Asc.lt{b:Nat}:∀{l:y0} {a:Nat},Asc a b l->∀x∈l,a<=x/\x<b
 |[],_,_,_,h=>by cases h|y::t,a,hl,x,h=>by
  rcases ZBq.1 h with rfl|h;·exact⟨hl.1,hl.2.1⟩
  .have:=Asc.lt hl.2.2 x h;have:=hl.1;exact⟨Qa,Qa⟩
def sM:∀(a j k:Nat),∀l∈cmb a j k,Asc a (a+j) l
 |_,_,0,l,h=>by simp[cmb]at h;subst h;trivial|_,0,k+1,l,h=>by cases h|a,j+1,k+1,l,h=>by
  simp only[cmb,C1,b3]at h;rcases h with⟨t,p,rfl⟩|h;·have:=sM (a+1) j k t p;rw[show a+1+j=a+(j+1)by omega]at this;exact⟨sW _,Qa,this⟩
  .have:=sM (a+1) j (k+1) l h;rw[show a+1+j=a+(j+1)by omega]at this;exact this.mono Qa
def uD:∀(a j:Nat)(l:y0),Asc a (a+j) l->l∈cmb a j l.length
 |a,j,[],_=>by cases j<;>simp[cmb]|a,0,x::t,h=>by have:=h.1;have:=h.2.1;omega|a,j+1,x::t,h=>by
  rw[y'];simp only[cmb,C1,b3];by_cases p:x=a;·subst p;exact .inl ⟨t,uD (x+1) j t (by have:=h.2.2;rwa [show x+(j+1)=x+1+j by omega]at this),rfl⟩
  .right;have:=uD (a+1) j (x::t) ⟨by have:=h.1;omega,by have:=h.2.1;omega,by have:=h.2.2;rwa [show a+(j+1)=a+1+j by omega]at this⟩;rwa [y']at this
def wK:∀(m:Nat)(l:y0),(∀i x,l[i]?=some x->x=m+i)->mC m l=none|_,[],_=>rfl|m,x::t,h=>by unfold mC;rw[wK (m+1) t (fun i y j=>by have:=h (i+1) y j;omega)];exact Zde (h 0 x rfl)
def JI:∀(m:Nat)(l:y0) (j x:Nat),l[j]?=some x->x≠m+j->(∀i y,j<i->l[i]?=some y->y=m+i)->mC m l=some (l.take j++List.range' (x+1) (l.length-j))|_,[],j,x,h,_,_=>by simp at h|m,y::t,0,x,h,hx,hl=>by simp at h;subst h;unfold mC;rw[wK (m+1) t (fun i z p=>by have:=hl (i+1) z Qa p;omega)];simp only;rw[q' (by simpa using hx)];simp|m,y::t,j+1,x,h,hx,hl=>by unfold mC;rw[JI (m+1) t j x (by simpa using h) Qa (fun i z a p=>by have:=hl (i+1) z Qa (by simpa using p);omega)];simp
def pop:Nat->Nat->Nat|0,_=>0|k+1,s=>pop k s+(s>>>k)%2
abbrev _root_.aB:=Nat->Nat->Int
def fI(f:aB)(M:L')(a set:Nat):Nat->Int->Int->Int|0,acc,_=>acc|c+1,acc,sg=>if (set>>>c)%2=0 then fI f M a set c acc sg else fI f M a set c (if M.getD (set-2^c) 0=0 then acc else acc+sg*f a c*M.getD (set-2^c) 0) (-sg)
def fR(f:aB)(n:Nat)(M:L')(set:Nat):Int:=fI f M (pop n set-1) set n 0 1
def dpM(f:aB)(n:Nat):Nat->List Int|0=>[1]|s+1=>dpM f n s++[fR f n (dpM f n s) (s+1)]
def ZW(f:aB)(n:Nat):Int:=(dpM f n (2^n-1)).getD (2^n-1) 0
def S3(f:aB)(n:Nat):∀s,(dpM f n s).length=s+1|0=>rfl|s+1=>by simp[dpM,S3 f n s]
def TV(m a x:Int):(if m=0 then a else a+x*m)=a+x*m:=by
 split;·rename_i h;rw[h];omega
 .rfl
def minorD(f:aB)(M:L')(a set:Nat):Nat->Int->Int->Int|0,acc,_=>acc|c+1,acc,sg=>if (set>>>c)%2=0 then minorD f M a set c acc sg else minorD f M a set c (acc+sg*f a c*M.getD (set-2^c) 0) (-sg)
def HT(f:aB)(M:L')(a set:Nat):∀c b h,fI f M a set c b h=minorD f M a set c b h|0,_,_=>rfl|c+1,b,h=>by unfold fI minorD;rw[HT f M a set c,HT f M a set c,TV]
def dpN(f:aB)(n:Nat):Nat->List Int|0=>[1]|s+1=>dpN f n s++[minorD f (dpN f n s) (pop n (s+1)-1) (s+1) n 0 1]
def x5(f:aB)(n:Nat):∀s,dpM f n s=dpN f n s|0=>rfl|s+1=>by unfold dpM dpN fR;rw[x5 f n s,HT]
def d2(f:aB)(i j:Nat):Int:=f 0 i*f 1 j-f 0 j*f 1 i
def d3(f:aB)(i j k:Nat):Int:=f 2 k*d2 f i j-f 2 j*d2 f i k+f 2 i*d2 f j k
def d4(f:aB)(i j k l:Nat):Int:=f 3 l*d3 f i j k-f 3 k*d3 f i j l+f 3 j*d3 f i k l-f 3 i*d3 f j k l
def d5(f:aB)(i j k l m:Nat):Int:=f 4 m*d4 f i j k l-f 4 l*d4 f i j k m+f 4 k*d4 f i j l m-f 4 j*d4 f i k l m+f 4 i*d4 f j k l m
def detP1(f:aB):ZW f 1=f 0 0:=by simp[ZW,x5,dpN,minorD,pop]
def detP2(f:aB):ZW f 2=d2 f 0 1:=by simp[ZW,x5,dpN,minorD,pop,d2];grind
def detP3(f:aB):ZW f 3=d3 f 0 1 2:=by simp[ZW,x5,dpN,minorD,pop,d3,d2];grind
def detP4(f:aB):ZW f 4=d4 f 0 1 2 3:=by simp[ZW,x5,dpN,minorD,pop,d4,d3,d2];grind
def jO(f:aB):ZW f 5=d5 f 0 1 2 3 4:=by simp[ZW,x5,dpN,minorD,pop,d5,d4,d3,d2];grind
abbrev _root_.aC:=Nat->Int
def repl(f:aB)(b:aC)(c:Nat)(i j:Nat):Int:=if j=c then b i else f i j
def BJ(f:aB)(b:aC):f 0 0*ZW (repl f b 0) 1=b 0*ZW f 1:=by simp[detP1,repl];grind
def BK(f:aB)(b:aC)(i:Nat)(a:i<2):f i 0*ZW (repl f b 0) 2+f i 1*ZW (repl f b 1) 2=b i*ZW f 2:=by simp[detP2,repl,d2];rcases i with _|_|i<;>first|grind|omega
def BL(f:aB)(b:aC)(i:Nat)(a:i<3):f i 0*ZW (repl f b 0) 3+f i 1*ZW (repl f b 1) 3+f i 2*ZW (repl f b 2) 3=b i*ZW f 3:=by simp[detP3,repl,d3,d2];rcases i with _|_|_|i<;>first|grind|omega
def BM(f:aB)(b:aC)(i:Nat)(a:i<4):f i 0*ZW (repl f b 0) 4+f i 1*ZW (repl f b 1) 4+f i 2*ZW (repl f b 2) 4+f i 3*ZW (repl f b 3) 4=b i*ZW f 4:=by simp[detP4,repl,d4,d3,d2];rcases i with _|_|_|_|i<;>first|grind|omega
def BN(f:aB)(b:aC)(i:Nat)(a:i<5):f i 0*ZW (repl f b 0) 5+f i 1*ZW (repl f b 1) 5+f i 2*ZW (repl f b 2) 5+f i 3*ZW (repl f b 3) 5+f i 4*ZW (repl f b 4) 5=b i*ZW f 5:=by simp[jO,repl,d5,d4,d3,d2];rcases i with _|_|_|_|_|i<;>first|grind|omega
abbrev Ex:=List Int×Int
def entR(r:List (List Int))(i j:Nat):Int:=(r.getD i []).getD j 0
def colF(r:List (List Int))(h:hB)(i c:Nat):Int:=entR r i (if h=some c then r.length else c)
def Z0(r:List (List Int))(h:hB):Int:=ZW (colF r h) r.length
def gZ(d:Int):Int:=if d<0 then -1 else 1
def C0(r:List (List Int)):Option (List Int×Int):=if Z0 r none=0 then none else some ((List.range r.length).map fun i=>gZ (Z0 r none)*Z0 r (some i),gZ (Z0 r none)*Z0 r none)
def dotL:List Int->List Int->Int|a::x,b::y=>a*b+dotL x y|_,_=>0
def putsL:List Ex->List Int->Nat->Int|x::es,w::W,k=>w*x.1.getD k 0+putsL es W k|_,_,_=>0
def spentL:List Ex->List Int->Int|x::es,w::W=>w*x.2+spentL es W|_,_=>0
def gcdL(g:Nat):List Int->Nat|[]=>g|n::l=>gcdL (Nat.gcd g n.natAbs) l
def zerosL(np:Nat)(l:y0):List Nat:=l.filter (·<np)
def tightL(np:Nat)(l:y0):List Nat:=(l.filter (np<=·)).map (· - np)
def hH(n i:Nat):List Int:=(List.range n).map fun j=>if j=i then 1 else 0
abbrev _root_.aF:=List Ex
def hV(e:Nat)(d:aF)(z t:y0):List (List Int):=List.replicate (e+1) 1::(z.map (fun i=>hH (e+1) i)++t.map fun i=>(d.getD i default).1++[(d.getD i default).2])
def A6(np:Nat)(d:aF)(z t:y0):Option (List Int×Int):=match C0 (hV np d z t)with|none=>none|some (l,den)=>if l.any (·<0)then none else if d.any (fun x=>!decide (dotL x.1 l<=x.2*den))then none else some (l.map (· / (gcdL 0 (den::l):Int)),den / (gcdL 0 (den::l):Int))
def A8(es:aF)(t:y0)(k:Nat)(w:Int):List Int:=1::(t.map (fun i=>-((es.getD i default).1.getD k 0))++[w])
def proofRows(es:aF)(z t:y0):Nat->List Int->List (List Int)|_,[]=>[]|k,w::ws=>if k∈z then proofRows es z t (k+1) ws else A8 es t k w::proofRows es z t (k+1) ws
def putW(l:L'):Nat->List Nat->List Int->List Int|_,[],W=>W|k,i::t,W=>putW l (k+1) t (W.set i (l.getD (k+1) 0))
def hZ(es:aF)(d h:Int)(W:L'):Nat->List Int->Bool|_,[]=>true|k,w::ws=>decide (h<=w*d+putsL es W k)&&hZ es d h W (k+1) ws
structure Prf where
 den:Int
 lev:Int
 W:List Int deriving Inhabited
def c7(es:aF)(d:L')(z t:y0):Option Prf:=match C0 (proofRows es z t 0 d)with|none=>none|some (l,den)=>if (List.range t.length).any (fun k=>l.getD (k+1) 0<0)then none else let W:=putW l 0 t (List.replicate es.length 0);if hZ es den (l.getD 0 0) W 0 d then let g:Int:=(gcdL 0 (den::l.getD 0 0::W):Int);some {den:=den / g,lev:=l.getD 0 0 / g,W:=W.map (· / g)} else none
def O1(np:Nat)(a:aF)(b:L')(l:y0):Option (List Int×Int×Prf):=match c7 a b (zerosL np l) (tightL np l)with|none=>none|some p=>match A6 np a (zerosL np l) (tightL np l)with|none=>none|some (m,d)=>some (m,d,p)
def solvedL(np:Nat) (es:aF) (ws:L'):Option (List Int×Int×Prf):=(cmb 0 (np+es.length) (np-1)).findSome? (O1 np es ws)
def TW(f:aB)(b:aC)(n:Nat)(h:n<=5)(i:Nat)(a:i<n):((List.range n).map fun c=>f i c*ZW (repl f b c) n).sum=b i*ZW f n:=by
 rcases n with _|_|_|_|_|_|n;·omega
 .obtain rfl:i=0:=Qa
  simpa using BJ f b
 .simpa [cO] using BK f b i a
 .simpa [cO,HR] using BL f b i a
 .simpa [cO,HR] using BM f b i a
 .simpa [cO,HR] using BN f b i a
 .omega
def TX(r:List (List Int)) (c:Nat):colF r (some c)=repl (colF r none) (fun i=>entR r i r.length) c:=by
 funext i j;unfold colF repl;by_cases h:j=c;·subst h;simp
 .have:¬(c=j):=fun e=>h e.symm;simp[this,h]
def JJ(row:L')(g:aC):∀(n:Nat)(row:L')(g:aC),n<=row.length->dotL row ((List.range n).map g)=((List.range n).map fun c=>row.getD c 0*g c).sum|0,row,g,_=>by cases row<;>simp[dotL]|n+1,[],g,h=>by simp at h|n+1,x::row,g,h=>by rw[List.range_succ_eq_map];simp only[M1,dZ,dotL,aS,r1];have:=JJ row g n row (g ∘ Nat.succ) (by simpa using h);rw[show g ∘ Nat.succ=g ∘ Nat.succ from rfl]at this;rw[this];rfl
def kN{r:List (List Int)} {l:L'} {b:Int} (h:C0 r=some (l,b))(z:r.length<=5)(D:∀row∈r,row.length=r.length+1):0<b/\l.length=r.length/\∀row∈r,dotL row l=row.getD r.length 0*b:=by
 unfold C0 at h;split at h;·cases h
 rename_i E;obtain⟨rfl,rfl⟩:_/\_:=by simpa using h
 refine⟨?_,Qd,fun row j=>?_⟩;·unfold gZ;split<;>omega
 .obtain⟨i,d,rfl⟩:=gJ j;have p:=TW (colF r none) (fun i=>entR r i r.length) r.length z i d;rw[JJ [] (fun _=>0) _ _ _ (by rw[D _ j];omega)];have q:∀c,(colF r none i c)=r[i].getD c 0:=fun c=>by simp[colF,entR,D1,h' d]
  have u:entR r i r.length=r[i].getD r.length 0:=by simp[entR,D1,h' d]
  have y:∀c,ZW (repl (colF r none) (fun i=>entR r i r.length) c) r.length=Z0 r (some c):=fun c=>by unfold Z0;rw[TX]
  simp only[q,u,y]at p;have:((List.range r.length).map fun c=>r[i].getD c 0*(gZ (Z0 r none)*Z0 r (some c))).sum=gZ (Z0 r none)*((List.range r.length).map fun c=>r[i].getD c 0*Z0 r (some c)).sum:=by generalize List.range r.length=L;induction L with
   |nil=>simp|cons x L ih=>simp only[M1,aS,ih];grind
  rw[this,p];show gZ _*(_*Z0 r none)=_;grind
open Tryz
open Go.RowKit
variable {w:World} {A:i'}
def Zc(x:Int):List Value:=[.int .i64 x]
structure IR where
 A:Option Addr
 c:Nat
 l:List Int
def IR.cs(x:IR):List Value:=[.slice x.A x.l.length x.c]
def cI(w:World)(A:i')(a:List IR):Prop:=At 1 IR.cs w A a/\∀x∈a,At 1 Zc w x.A x.l
def cI.below{w':World} {d:List IR} (h:cI w A d)(hb:QB w w'):cI w' A d:=⟨h.1.below hb,fun x j=>(h.2 x j).below hb⟩
def P9(r:List (List Int))(q:Int)(i c:Nat):Int:=entR r i (if (c:Int)=q then r.length else c)
def cI.cell{f:List IR} (h:cI w A f) {i j:Nat} {x:IR} (d:f[i]?=some x)(u:j<x.l.length):∃b o p o2,A=some ⟨b,o,none⟩/\x.A=some ⟨p,o2,none⟩/\w.cell? ⟨b,o+i,none⟩=some (.slice (some ⟨p,o2,none⟩) x.l.length x.c)/\w.cell? ⟨p,o2+j,none⟩=some (.int .i64 (x.l.getD j 0))/\entR (f.map IR.l) i j=x.l.getD j 0:=by
 obtain⟨b,o,y,-,z⟩:=h.1 i x d;obtain⟨p,o2,hA2,-,q⟩:=h.2 x (k3 d) j _ (h' u);refine⟨b,o,p,o2,y,hA2,?_,?_,?_⟩;·have:=z 0 _ rfl;rw[hA2]at this;simpa using this
 .have:=q 0 _ rfl;rw[D1,h' u];simpa using this
 .simp[entR,D1,d]
def TY(A:i')(d:List IR)(c n:Nat)(q:Int)(K N R a h:Nat)(w:World)(H:w.heap[K]?=some (.cells #[q] 3))(g:w.heap[N]?=some (.cells #[n] 3))(i:w.heap[R]?=some (.cells #[.slice A n c] 160))(p:cI w A d)(J:d.length=n)(I:∀x∈d,x.l.length=n+1)(U:a<n)(S:h<n):Calls prog 122 #[a,h,.pointer (some K),.pointer (some N),.pointer (some R)] w fun e m=>e=.returned (P9 (d.map IR.l) q a h)/\w=m:=by
 obtain⟨x,F⟩:∃x,d[a]?=some x:=⟨_,h' Qa⟩;have y:=I x (k3 F);have u:(d.map IR.l).length=n:=by simpa using J
 have Z:=bk1 H;have r:=bk1 g;have t:=bk1 i;have Y:(a:Int)<(n:Int):=Qa
 by_cases z:(h:Int)=q
 .obtain⟨b,o,V,o2,rfl,hA2,G,X,D⟩:=p.cell F (j:=n) Qa;have E:P9 (d.map IR.l) q a h=x.l.getD n 0:=by unfold P9;rw[Zde z,u,D]
  rw[E];rw[y]at G;have O:((h:Int)==q)=true:=by simp[z]
  have L:(n:Int)<((n+1:Nat):Int):=Qa
  generalize x.l.getD n 0=v at*;clear z E D F y I J p u H g i hA2;go_enter func122,ntmps122;go_wp2;go_ret;exact⟨rfl,rfl⟩
 .obtain⟨b,o,V,o2,rfl,hA2,G,X,D⟩:=p.cell F (j:=h) Qa;have E:P9 (d.map IR.l) q a h=x.l.getD h 0:=by unfold P9;rw[q' z,D]
  rw[E];rw[y]at G;have O:((h:Int)==q)=false:=by simp[z]
  have L:(h:Int)<((n+1:Nat):Int):=Qa
  generalize x.l.getD h 0=v at*;clear z E D F y I J p u H g i hA2;go_enter func122,ntmps122;go_wp2;go_ret;exact⟨rfl,rfl⟩
end Go.Proofs
namespace Go.Proofs
variable {m ws W l:L'} {f g:aC} {es:aF} {den lev d:Int}
def wsum:List Int->(Nat->Int)->Int|[],_=>0|x::m,f=>x*f 0+wsum m fun k=>f (k+1)
def qX(m:L')(f g:aC):wsum m (fun k=>f k+g k)=wsum m f+wsum m g:=by induction m generalizing f g with|nil=>rfl|cons x m ih=>simp only[wsum];rw[ih (fun k=>f (k+1)) fun k=>g (k+1)];grind
def BO(m:L')(c:Int)(f:aC):wsum m (fun k=>c*f k)=c*wsum m f:=by induction m generalizing f with|nil=>simp[wsum]|cons x m ih=>simp only[wsum];rw[ih fun k=>f (k+1)];grind
def BP(m:L')(c:Int)(f:aC):wsum m (fun k=>f k*c)=wsum m f*c:=by rw[eM,<-BO];congr 1;funext k;exact eM _ _
def qY(m:L')(c:Int):wsum m (fun _=>c)=c*m.sum:=by induction m with|nil=>simp[wsum]|cons x m ih=>simp only[wsum,aS];rw[ih];grind
def wL(m:L'):wsum m (fun _=>0)=0:=by rw[qY];simp
def TZ(a:∀x∈m,0<=x)(h:∀k,k<m.length->f k<=g k):wsum m f<=wsum m g:=by induction m generalizing f g with|nil=>exact rP _|cons x m ih=>simp only[wsum];have q:=qS (h 0 Qd) (a x Qd);have u:=ih (fun y p=>a y (by simp[p])) (f:=fun k=>f (k+1)) (g:=fun k=>g (k+1)) fun k j=>h (k+1) (by simpa using j);omega
def BQ(h:∀k x,m[k]?=some x->x≠0->f k=g k):wsum m f=wsum m g:=by induction m generalizing f g with
 |nil=>rfl|cons x m ih=>
  simp only[wsum];rw[ih (f:=fun k=>f (k+1)) (g:=fun k=>g (k+1)) fun k y p=>h (k+1) y (by simpa using p)];by_cases j:x=0;·rw[j];simp
  .rw[h 0 x rfl j]
def jP:∀(a m:L'),m.length<=a.length->dotL a m=wsum m fun k=>a.getD k 0|[],[],_=>rfl|_::_,[],_=>by simp[dotL,wsum]|[],_::_,h=>by simp at h|a::ar,x::m,h=>by simp only[dotL,wsum,r1,hW];rw[jP ar m (by simpa using h)];grind
def BR(a b m:L')(h:m.length=a.length):dotL (a++b) m=dotL a m:=by induction a generalizing m with|nil=>have:m=[]:=eX (by simpa using h);subst this;cases b<;>simp[dotL]|cons x a ih=>cases m with|nil=>simp at h|cons y m=>simp only[hP,dotL];rw[ih m (by simpa using h)]
def HU(g:Int):∀(a m:L'),dotL a (m.map (g*·))=g*dotL a m|[],_=>by simp[dotL]|_::_,[]=>by simp[dotL]|a::ar,x::m=>by simp only[M1,dotL];rw[HU g ar m];grind
def HV(g:Int):∀(es:aF)(W:L')(k:Nat),putsL es (W.map (g*·)) k=g*putsL es W k|[],_,_=>by simp[putsL]|_::_,[],_=>by simp[putsL]|a::ar,x::m,k=>by simp only[M1,putsL];rw[HV g ar m k];grind
def lS:List Ex->List Int->List Int->Int|x::es,w::W,m=>w*dotL x.1 m+lS es W m|_,_,_=>0
def wM(m:L'):∀(es:aF)(W:L'),(∀x∈es,m.length<=x.1.length)->wsum m (putsL es W)=lS es W m
 |[],W,_=>by
  have:putsL [] W=fun _=>0:=by funext k;simp[putsL]
  rw[this,wL];simp[lS]|x::es,[],_=>by
  have:putsL (x::es) []=fun _=>0:=by funext k;simp[putsL]
  rw[this,wL];simp[lS]|x::es,w::W,h=>by
  have:putsL (x::es) (w::W)=fun k=>w*x.1.getD k 0+putsL es W k:=by funext k;simp[putsL]
  rw[this,qX,BO,wM m es W fun y j=>h y (by simp[j]),<-jP _ _ (h x Qd)];rfl
def JK{m:L'} {d:Int}:∀(es:aF)(W:L'),(∀w∈W,0<=w)->(∀(i:Nat)(x:Ex)(w:Int),es[i]?=some x->W[i]?=some w->0<w->dotL x.1 m<=x.2*d)->lS es W m<=spentL es W*d
 |[],_,_,_=>by simp[lS,spentL]|_::_,[],_,_=>by simp[lS,spentL]|x::es,w::W,hw,h=>by
  have z:=JK es W (fun v j=>hw v (by simp[j])) fun i y v q j=>h (i+1) y v (by simpa using q) (by simpa using j);simp only[lS,spentL];have p:=hw w Qd;have:w*dotL x.1 m<=w*(x.2*d):=by
   by_cases u:w=0;·rw[u];simp
   .exact qS (h 0 x w rfl rfl Qa) p
  grind
def JL{m:L'} {d:Int}:∀(es:aF)(W:L'),(∀(i:Nat)(x:Ex)(w:Int),es[i]?=some x->W[i]?=some w->w≠0->dotL x.1 m=x.2*d)->lS es W m=spentL es W*d
 |[],_,_=>by simp[lS,spentL]|_::_,[],_=>by simp[lS,spentL]|x::es,w::W,h=>by
  have j:=JL es W fun i y v u q=>h (i+1) y v (by simpa using u) (by simpa using q);simp only[lS,spentL];by_cases p:w=0;·rw[p,j];simp
  .rw[h 0 x w rfl rfl p,j];grind
def T0(q:∀x∈es,x.1.length=m.length)(z:ws.length=m.length)(b:∀x∈m,0<=x)(p:m.sum=d)(y:∀w∈W,0<=w)(h:∀k,k<m.length->lev<=ws.getD k 0*den+putsL es W k)(j:∀(i:Nat)(x:Ex)(w:Int),es[i]?=some x->W[i]?=some w->0<w->dotL x.1 m<=x.2*d):(lev-spentL es W)*d<=dotL ws m*den:=by have u:=TZ b h;rw[qY,qX,BP,<-jP _ _ Qa,p,wM _ _ _ fun x D=>by rw[q x D];exact sW _]at u;have E:=JK es W y j;grind
def T2(q:∀x∈es,x.1.length=m.length)(y:ws.length=m.length)(p:m.sum=d)(h:∀k x,m[k]?=some x->x≠0->lev=ws.getD k 0*den+putsL es W k)(j:∀(i:Nat)(x:Ex)(w:Int),es[i]?=some x->W[i]?=some w->w≠0->dotL x.1 m=x.2*d):(lev-spentL es W)*d=dotL ws m*den:=by have u:wsum m (fun _=>lev)=wsum m fun k=>ws.getD k 0*den+putsL es W k:=BQ h;rw[qY,qX,BP,<-jP _ _ Qa,p,wM _ _ _ fun x z=>by rw[q x z];exact sW _]at u;have D:=JL es W j;grind
def g'{a b:Int} {A B:Nat} (h:a.natAbs<=A)(hb:b.natAbs<=B):(a*b).natAbs<=A*B:=by rw[eQ];exact gK h hb
def D5:∀(l:L')(g:Nat),gcdL g l∣g/\∀x∈l,(gcdL g l:Int)∣x
 |[],g=>⟨Nat.dvd_refl _,fun x h=>by cases h⟩|n::l,g=>by
  obtain⟨j,p⟩:=D5 l (Nat.gcd g n.natAbs);simp only[gcdL];refine⟨Nat.dvd_trans j (Nat.gcd_dvd_left _ _),fun x h=>?_⟩;rcases ZBq.1 h with rfl|h;·exact Int.ofNat_dvd_left.2 (Nat.dvd_trans j (Nat.gcd_dvd_right _ _))
  .exact p x h
def s4{g:Nat} (x:Int)(o:x∈l)(i:x≠0):0<gcdL g l:=by
 rcases oE (gcdL g l)with h|h;·have:=(D5 l g).2 x o;rw[h]at this;exact absurd (Int.zero_dvd.1 this) i
 .exact h
def BS{g:Int} (p:0<g)(h:∀x∈l,g∣x):(l.map (· / g)).map (g*·)=l:=by
 rw[dZ];conv=>rhs;rw[<-kG l]
 apply kH;intro x j;simp only[Function.comp_apply,id_eq];exact jL (h x j)
end Go.Proofs
namespace Go.Proofs
open Go.RowKit
variable {w:World} {A:i'} {l:L'} {K:Nat}
structure Pa where
 nm:ByteArray
 a0:Int
 a1:Int
 c0:Int
 c1:Int
def Pa.cs(p:Pa):List Value:=[.string p.nm,.int .i64 p.a0,.int .i64 p.a1,.int .i64 p.c0,.int .i64 p.c1]
structure En where
 nm:ByteArray
 A:Option Addr
 c:Nat
 co:List Int
 mo:Int
def En.cs(x:En):List Value:=[.string x.nm,.slice x.A x.co.length x.c,.int .i64 x.mo]
def En.ex(x:En):Ex:=(x.co,x.mo)
abbrev _root_.e6:=List En
def h7(w:World)(A:i')(es:e6):Prop:=At 3 En.cs w A es/\∀x∈es,At 1 Zc w x.A x.co
def h7.below{w':World} {es:e6} (h:h7 w A es)(hb:QB w w'):h7 w' A es:=⟨h.1.below hb,fun x j=>(h.2 x j).below hb⟩
def D9(h:At 1 Zc w A l) {k:Nat} (d:k<l.length):∃b o,A=some ⟨b,o,none⟩/\b<w.heap.size/\w.cell? ⟨b,o+k,none⟩=some (.int .i64 (l.getD k 0)):=by obtain⟨b,o,p,j,q⟩:=h k _ (h' d);refine⟨b,o,p,j,?_⟩;have:=q 0 _ rfl;rw[D1,h' d];simpa using this
def ZK(K:Nat)(l:L'):Prop:=∀x∈l,x.natAbs<=K
def ZK.get(h:ZK K l)(k:Nat):(l.getD k 0).natAbs<=K:=by rw[D1];cases j:l[k]? with|none=>exact k2 _|some x=>exact h x (k3 j)
def ZK.mono{j:Nat} (h:ZK K l)(p:K<=j):ZK j l:=fun x q=>h9 (h x q) p
def wN:∀(a b:L') (k:Nat),k<a.length->k<b.length->dotL (a.take (k+1)) (b.take (k+1))=dotL (a.take k) (b.take k)+a.getD k 0*b.getD k 0|[],_,_,h,_=>by simp at h|_::_,[],_,_,h=>by simp at h|x::a,y::b,0,_,_=>by cases a<;>cases b<;>simp[dotL]|x::a,y::b,k+1,h,h'=>by simp only[sT,dotL,hW];have:=wN a b k (by simpa using h) (by simpa using h');rw[this];omega
def jQ{X Y:Nat}:∀(a b:L') (k:Nat),ZK X a->ZK Y b->(dotL (a.take k) (b.take k)).natAbs<=k*(X*Y)|[],b,k,_,_=>by simp[dotL]|_::_,[],k,_,_=>by simp[dotL]|_::_,_::_,0,_,_=>by simp[dotL]|x::a,y::b,k+1,ha,hb=>by simp only[sT,dotL];have j:=g' (ha x Qd) (hb y Qd);have p:=jQ a b k (fun z h=>ha z (by simp[h])) fun z h=>hb z (by simp[h]);rw[Q1];omega
def qZ(a b:L') (h:a.length=b.length):dotL (a.take a.length) (b.take a.length)=dotL a b:=by rw[x1,h,x1]
def wO(c:Nat):∀(es:aF) (W:L') (k:Nat),k<es.length->k<W.length->putsL (es.take (k+1)) (W.take (k+1)) c=putsL (es.take k) (W.take k) c+W.getD k 0*(es.getD k default).1.getD c 0|[],_,_,h,_=>by simp at h|_::_,[],_,_,h=>by simp at h|x::a,y::b,0,_,_=>by cases a<;>cases b<;>simp[putsL]|x::a,y::b,k+1,h,h'=>by simp only[sT,putsL,hW];have:=wO c a b k (by simpa using h) (by simpa using h');rw[this];omega
def jR{X Y:Nat} (c:Nat):∀(es:aF) (W:L') (k:Nat),(∀x∈es,ZK X x.1)->ZK Y W->(putsL (es.take k) (W.take k) c).natAbs<=k*(Y*X)|[],b,k,_,_=>by simp[putsL]|_::_,[],k,_,_=>by simp[putsL]|_::_,_::_,0,_,_=>by simp[putsL]|x::a,y::b,k+1,ha,hb=>by simp only[sT,putsL];have j:=g' (hb y Qd) ((ha x Qd).get c);have p:=jR c a b k (fun z h=>ha z (by simp[h])) fun z h=>hb z (by simp[h]);rw[Q1];omega
def wP:∀(es:aF) (W:L') (k:Nat),k<es.length->k<W.length->spentL (es.take (k+1)) (W.take (k+1))=spentL (es.take k) (W.take k)+W.getD k 0*(es.getD k default).2|[],_,_,h,_=>by simp at h|_::_,[],_,_,h=>by simp at h|x::a,y::b,0,_,_=>by cases a<;>cases b<;>simp[spentL]|x::a,y::b,k+1,h,h'=>by simp only[sT,spentL,hW];have:=wP a b k (by simpa using h) (by simpa using h');rw[this];omega
def iC{X Y:Nat}:∀(es:aF) (W:L') (k:Nat),(∀x∈es,x.2.natAbs<=X)->ZK Y W->(spentL (es.take k) (W.take k)).natAbs<=k*(Y*X)|[],b,k,_,_=>by simp[spentL]|_::_,[],k,_,_=>by simp[spentL]|_::_,_::_,0,_,_=>by simp[spentL]|x::a,y::b,k+1,ha,hb=>by simp only[sT,spentL];have j:=g' (hb y Qd) (ha x Qd);have p:=iC a b k (fun z h=>ha z (by simp[h])) fun z h=>hb z (by simp[h]);rw[Q1];omega
end Go.Proofs
namespace Go.Proofs
open Tryz
open Go.RowKit
def l4{K x k n:Nat} (h:x<=k*K)(a:k<=n):x<=n*K:=h9 h (N2 _ a)
def _root_.Qv{P:Prop}(h:P:=by simp[intOf]<;>omega):P:=h
def q9(A B:i')(a b:L')(ca cb:Nat)(w:World)(r:At 1 Zc w A a)(hB:At 1 Zc w B b)(I:a.length=b.length)(n:a.length<=8)(X Y:Nat)(u:8*(X*Y)<=9000000000000000000)(d:ZK X a)(sb:ZK Y b):Calls prog 52 #[.slice A a.length ca,.slice B b.length cb] w fun e w'=>e=.returned (dotL a b)/\w=w':=by
 have h:=w0 (qZ a b I);have j:=w0 fun k q=>wN a b k q (by rw[<-I];exact q);have D:=w0 fun k=>jQ (X:=X) (Y:=Y) a b k d sb;have f:=w0 fun k (q:k<a.length)=>D9 r q;have m:=w0 fun k (q:k<a.length)=>D9 (w:=w) hB (k:=k) (by rw[<-I];exact q);have ga:=w0 d.get;have u:=w0 u;have gb:=w0 sb.get;obtain⟨N,V⟩:=Qu a.length;rw[V]at h j n f m |-;rw[<-I,V];clear r hB I V d sb;obtain⟨S,Z⟩:∃S:Nat->Int,(fun k=>dotL (a.take k) (b.take k))=S:=⟨_,rfl⟩;have F:∀k,dotL (a.take k) (b.take k)=S k:=fun k=>by rw[<-Z]
 have P:S 0=0:=by rw[<-Z];cases a<;>cases b<;>simp[dotL]
 simp only[F]at h j D;obtain⟨R,C⟩:=Qu (dotL a b);rw[C]at h |-;clear Z F C;have aB:=h;go_enter func52,ntmps52;go_wp2;go_loopw [5,10] (fun s i wr=>∃k:Nat,k<=N/\i=.int .i64 k/\s=.int .i64 (S k)/\w=wr)(fun _ i _=>N-(intOf i).toNat);case atStart=>exact⟨0,k2 _,rfl,by rw[P],rfl⟩
 case round=>
  obtain⟨k,q,rfl,rfl,rfl⟩:=hrel;by_cases p:k<N
  .have aC:(k:Int)<(N:Int):=Qa
   obtain⟨b1,o1,hA1,-,Q⟩:=f.out k p;obtain⟨b2,o2,U,-,W⟩:=m.out k p;subst hA1;subst U;have L:=j.out k p;have J:=g' (ga.out k) (gb.out k);have G:=l4 (D.out k) q;have H:=l4 (D.out (k+1)) p;obtain⟨x,K⟩:=Qu (a.getD k 0);obtain⟨y,M⟩:=Qu (b.getD k 0);rw[K]at Q L J;rw[M]at W L J;obtain⟨z,c⟩:=Qu (x*y);rw[c]at L J;have o:=N2 (X*Y) n;have E:=u.out;obtain⟨XY,O⟩:=Qu (X*Y);rw[O]at J G H o E;have aD:IntKind.i64.wrap (x*y)=z:=by rw[c];exact B3 _ Qa
   have aE:IntKind.i64.wrap (S k+z)=S (k+1):=by rw[<-L];exact B3 _ Qa
   clear c L J G H K M o E O;go_wp2;go_roundw;case rel=>exact⟨k+1,Qa,Qj,rfl,Qr⟩
   case measure=>exact Qv
  .obtain rfl:k=N:=Qa
   have e:S k=R:=h.out;clear p;go_wp2;go_ret;exact⟨aU e,rfl⟩
def T3(l:L'):∀(k g:Nat),k<l.length->gcdL g (l.take (k+1))=Nat.gcd (gcdL g (l.take k)) (l.getD k 0).natAbs:=by induction l with|nil=>intro k g h;simp at h|cons x l ih=>intro k g h;cases k with|zero=>simp[gcdL]|succ k=>simp only[sT,gcdL,hW];exact ih k _ (by simpa using h)
def BU{g n:Int} (h:n≠0):Nat.gcd n.natAbs (g.tmod n).natAbs=Nat.gcd g.natAbs n.natAbs/\(g.tmod n).natAbs<n.natAbs:=by rw[Int.natAbs_tmod];refine⟨?_,Nat.mod_lt _ Qa⟩;rw[Nat.gcd_comm,<-Nat.gcd_rec,Nat.gcd_comm]
def rB(A:i')(l:L')(c:Nat)(w:World)(m:At 1 Zc w A l)(h8:l.length<=1000)(sl:ZK 1000000000000000000 l):Calls prog 76 #[.slice A l.length c] w (Qt w (gcdL 0 l:Nat)):=by
 have h:=w0 fun k I=>T3 l k 0 I;have f:=w0 fun W' (hb:QB w W') k (I:k<l.length)=>D9 (m.below hb) I;have ga:=w0 sl.get;have p:Hid (gcdL 0 (l.take l.length)=gcdL 0 l):=by rw[x1];exact rfl
 obtain⟨N,o⟩:=Qu l.length;rw[o]at h h8 f p |-;obtain⟨S,J⟩:∃S:Nat->Nat,(fun k=>gcdL 0 (l.take k))=S:=⟨_,rfl⟩;have E:∀k,gcdL 0 (l.take k)=S k:=fun k=>by rw[<-J]
 have L:S 0=0:=by rw[<-J];simp[gcdL]
 simp only[E]at h p;obtain⟨R,r⟩:=Qu (gcdL 0 l);rw[r]at p |-;clear m o sl J E r;go_enter func76,ntmps76;go_wp2;go_loopw [3,8] (fun s i wr=>∃(k:Nat)(g:Int),k<=N/\i=.int .i64 k/\s=.int .i64 g/\Hid (g.natAbs=S k)/\Hid (g.natAbs<=1000000000000000000)/\QB w wr)(fun _ i _=>N-(intOf i).toNat);case atStart=>exact⟨0,0,k2 _,rfl,rfl,by show (0:Int).natAbs=_;rw[L];rfl,by show (0:Int).natAbs<=_;omega,Qi⟩
 case round=>
  obtain⟨k,d,I,rfl,rfl,F,y,q⟩:=hrel;by_cases D:k<N
  .have aC:(k:Int)<(N:Int):=Qa
   obtain⟨b1,o1,hA1,aE,a⟩:=f.out wr q k D;subst hA1;have C:=w0 (h.out k D);have H:=w0 (ga.out k);obtain⟨x,K⟩:=Qu (l.getD k 0);rw[K]at a C H;clear K;go_wp2;go_loopw [3,5] (fun s j wr=>∃g n:Int,s=.int .i64 g/\j=.int .i64 n/\Hid (Nat.gcd g.natAbs n.natAbs=S (k+1))/\Hid (g.natAbs<=1000000000000000000/\n.natAbs<=1000000000000000000)/\QB w wr)(fun _ j _=>(intOf j).natAbs);case atStart=>exact⟨d,x,rfl,rfl,by show Nat.gcd _ _=_;rw[C.out,F.out],⟨y.out,H.out⟩,by first|assumption|go_grown⟩
   case round=>
    clear q a;obtain⟨g,n,rfl,rfl,B,u,q⟩:=hrel;by_cases Y:n=0
    .subst Y;have z:=w0 (show g.natAbs=S (k+1)from by have:=B.out;simpa using this);go_wp2;go_roundw;case rel=>exact⟨k+1,g,Qa,Qj,rfl,z.out,u.out.1,q⟩
     case measure=>exact Qv
    .have aD : (n != 0) = true := by simpa using Y
     obtain⟨M,Q⟩:=BU (g:=g) Y;have z:=w0 (M.trans B.out);have G:=w0 (show n.natAbs<=1000000000000000000/\(g.tmod n).natAbs<=1000000000000000000 from⟨u.out.2,by have:=u.out.2;omega⟩);have X:=w0 Q;clear M Q;go_wp2;refine c8 w Qb Qb Qi ?_;intro V U;repeat (go_big_quiet_step (fail))
     refine ZyG ?_;intro wb O aA Z;clear V U;go_wp2;go_roundw;case rel=>exact⟨n,g.tmod n,rfl,rfl,z.out,G.out,by first|assumption|go_grown⟩
     case measure=>have:=X.out;simp only[intOf];exact this
  .obtain rfl:k=N:=Qa
   have aB:d.natAbs=R:=F.out.trans p.out;have u:=y.out;clear D;go_wp2;all_goals go_ret
   all_goals exact⟨aU Qa,q⟩
def pcn:Nat->Nat->Nat|0,_=>0|f+1,n=>n%2+pcn f (n / 2)
def o1(x:Int):Int:=IntKind.u64.wrap (bits .and .u64 (x / 2) 6148914691236517205+bits .and .u64 x 6148914691236517205)
def o2(x:Int):Int:=IntKind.u64.wrap (bits .and .u64 (x / 4) 3689348814741910323+bits .and .u64 x 3689348814741910323)
def o3(x:Int):Int:=bits .and .u64 (IntKind.u64.wrap (x / 16+x)) 1085102592571150095
def o4(x:Int):Int:=IntKind.u64.wrap (x+x / 256)
def o5(x:Int):Int:=IntKind.u64.wrap (x+x / 65536)
def o6(x:Int):Int:=IntKind.u64.wrap (x+x / 4294967296)
def T4(x:Int):Int:=bits .and .i64 (wrap64 (o6 (o5 (o4 (o3 (o2 (o1 x))))))) 127
def T5:∀n∈List.range 256,T4 (n:Int)=((pcn 8 n:Nat):Int):=Qm
def T6(n:Nat)(j:n<256)(w:World):Calls prog 137 #[.int .u64 n] w fun e a=>e=.returned (pcn 8 n)/\w=a:=by have h:=w0 (T5 n (w5.2 j));go_enter func137,ntmps137;go_wp2;go_ret;exact⟨aU h.out,rfl⟩
def T7(n:Nat)(h:n<256)(w:World):Calls prog 123 #[.int .u64 n] w fun e a=>e=.returned (pcn 8 n)/\w=a:=by go_enter func123,ntmps123;go_wp2_with (go_at_call 137;refine(T6 n h _).mono ?_;rintro e a ⟨rfl,rfl⟩);go_ret;exact⟨rfl,rfl⟩
end Go.Proofs
namespace Go.Proofs
variable {l:L'} {x:Int} {k:Nat}
def rC:∀n∈List.range 6,∀s∈List.range (2^n),∀c∈List.range n,(s>>>c)%2=1->pop n (s-2^c)+1=pop n s/\2^c<=s:=Qm
def iQ:∀n∈List.range 6,∀s∈List.range (2^n),pop n s<=n:=Qm
def BW:∀n∈List.range 6,∀s∈List.range (2^n),s≠0->1<=pop n s:=Qm
def HW{f:aB} {M:L'} {row set Z:Nat}:∀(c:Nat)(a p:Int),(p=1∨p=-1)->(∀j,j<c->(f row j).natAbs<=400)->(∀j,j<c->(set>>>j)%2=1->(M.getD (set-2^j) 0).natAbs<=Z)->(fI f M row set c a p).natAbs<=a.natAbs+c*(400*Z)
 |0,a,_,_,_,_=>by unfold fI;omega|c+1,a,p,hs,hf,hM=>by
  unfold fI;have y:(-p=1∨-p=-1):=Qa
  split;·have:=HW c a p hs (fun j u=>hf j Qa) fun j u=>hM j Qa;rw[Q1];omega
  .rename_i F;have q:(set>>>c)%2=1:=Qa
   have D:=g' (hf c Qa) (hM c Qa q);have z:∀h,h.natAbs<=a.natAbs+400*Z->(fI f M row set c h (-p)).natAbs<=a.natAbs+(c+1)*(400*Z):=fun h E=>by have:=HW c h (-p) y (fun j u=>hf j Qa) fun j u=>hM j Qa;rw[Q1];omega
   refine z _ ?_;split;·omega
   .rw[xT];rcases hs with rfl|rfl<;>omega
def BX(h:k<l.length):(l++[x]).getD k 0=l.getD k 0:=by rw[D1,aW h,<-D1]
def rD(h:k=l.length):(l++[x]).getD k 0=x:=by subst h;simp[D1]
def fP(f:aB)(n:Nat):Prop:=∀i j,i<n->j<n->(f i j).natAbs<=400
def wQ{f:aB} {n:Nat} (z:n<=5)(a:fP f n):∀s,s<2^n->∀k,k<=s->((dpM f n s).getD k 0).natAbs<=2000^pop n k
 |0,_,k,hk=>by
  obtain rfl:k=0:=Qa
  simp only[dpM,r1];exact Nat.one_le_pow _ _ Qa|s+1,hs,k,hk=>by
  have D:=wQ z a s Qa;have N:=S3 f n s;unfold dpM;by_cases y:k<=s;·rw[BX Qa];exact D k y
  .obtain rfl:k=s+1:=Qa
   rw[rD Qa];have h:n∈List.range 6:=w5.2 Qa;have q:s+1∈List.range (2^n):=w5.2 hs;have G:=BW n h _ q Qa;have H:=iQ n h _ q;unfold fR;have:=HW (f:=f) (M:=dpM f n s) (row:=pop n (s+1)-1) (set:=s+1) (Z:=2000^(pop n (s+1)-1)) n 0 1 (.inl rfl) (fun j u=>a _ _ Qa u) fun j u E=>by obtain⟨I,J⟩:=rC n h _ q j (w5.2 u) E;have L:=iP j;have:=D (s+1-2^j) Qa;rwa [show pop n (s+1-2^j)=pop n (s+1)-1 by omega]at this
   refine h9 this ?_;obtain⟨p,F⟩:∃p,pop n (s+1)=p+1:=⟨pop n (s+1)-1,Qa⟩;rw[F];simp only[eE,Int.natAbs_zero,m',qT];have:n*(400*2000^p)<=5*(400*2000^p):=N2 _ z;omega
def T8{f:aB} {n s j:Nat} (z:n<=5)(b:fP f n)(c:s+1<2^n)(y:j<n)(a:((s+1)>>>j)%2=1):((dpM f n s).getD (s+1-2^j) 0).natAbs<=16000000000000/\2^j<=s+1/\pop n (s+1)-1<n:=by
 have h:n∈List.range 6:=w5.2 Qa;have p:s+1∈List.range (2^n):=w5.2 c;obtain⟨E,q⟩:=rC n h _ p j (w5.2 y) a;have D:=iQ n h _ p;have F:=iP j;have:=wQ z b s Qa (s+1-2^j) Qa;refine⟨h9 this ?_,q,Qa⟩;have u:pop n (s+1-2^j)<=4:=Qa
 exact h9 (kL Qa u) Qc
end Go.Proofs
namespace Go.Proofs
open Tryz
open Go.RowKit
variable {f:aB} {n s:Nat} {acc:Int}
def info3:(prog.info? 3).map (fun i=>(i.zero,i.size,i.bytes))=some (some (.int .i64 0),1,8):=Qb
def BD(n:Nat) (h:n<=100000) (W:World):(Instr.makeSlice 30 (.int .i64 n) (.int .i64 n)).run prog W=.ok (.slice (some W.heap.size) n n) (W.alloc (.cells (D3 (List.replicate n 0)) 3)):=by rw[<-TU];exact run_make_row' 30 3 (.int .i64 0) 8 underlying30 info3 rfl .i64 .i64 n Qa Qa W
def UA:∀s∈List.range 32,∀c∈List.range 5,(s>>>c)%2=1->bits .andNot .i64 (s:Int) ((2^c:Nat):Int)=((s-2^c:Nat):Int):=Qm
def UB:∀s∈List.range 32,bits .and .i64 (s:Int) 1=((s%2:Nat):Int):=Qm
def fK(f:aB)(n s:Nat)(acc:Int):List Int:=dpM f n (s-1)++acc::List.replicate (2^n-1-s) 0
def UC{h:Int} (j:1<=s):(fK f n s acc).set s h=fK f n s h:=by unfold fK;rw[iA _ _ (by rw[S3];omega),S3,show s-(s-1+1)=0 by omega];rfl
def wR(h:1<=s):(fK f n s acc)[s]?=some acc:=by unfold fK;rw[bA (by rw[S3];omega),S3,show s-(s-1+1)=0 by omega];rfl
def UD{k:Nat} (h:1<=s)(a:k<s):(fK f n s acc)[k]?=some ((dpM f n (s-1)).getD k 0):=by unfold fK;have j:=S3 f n (s-1);rw[aW Qa,D1,h' Qa];rfl
def UE(h:1<=s)(j:s+1<2^n):fK f n s (fR f n (dpM f n (s-1)) s)=fK f n (s+1) 0:=by obtain⟨r,rfl⟩:∃r,s=r+1:=⟨s-1,Qa⟩;unfold fK;simp only[eE];rw[show dpM f n (r+1)=dpM f n r++[fR f n (dpM f n r) (r+1)]from rfl,show 2^n-1-(r+1)=(2^n-1-(r+1+1))+1 by omega,E9];simp
def UF(h:1<=s)(j:s+1=2^n):(fK f n s (fR f n (dpM f n (s-1)) s))[2^n-1]?=some (ZW f n):=by obtain⟨r,rfl⟩:∃r,s=r+1:=⟨s-1,Qa⟩;rw[show 2^n-1=r+1 by omega,wR h];unfold ZW;rw[show 2^n-1=r+1 by omega,eE];show _=some ((dpM f n r++[fR f n (dpM f n r) (r+1)]).getD (r+1) 0);rw[rD (by rw[S3])]
def UG(h:1<=n):(List.replicate (2^n) 0).set 0 1=fK f n 1 0:=by unfold fK;obtain⟨r,j⟩:∃r,2^n=r+2:=⟨2^n-2,by have:2^1<=2^n:=kL Qa h;omega⟩;rw[j,show r+2-1-1=r by omega];rfl
variable {f:aB} {M:L'} {row s d K x n:Nat} {acc g:Int}
def UH:∀n∈List.range 6,∀s∈List.range (2^n),s≠0->(pcn 8 s-1)+1=pcn 8 s/\pop n s-1=pcn 8 s-1/\pcn 8 s-1<n/\IntKind.u64.wrap (s:Int)=(s:Int):=Qm
def UI:∀s∈List.range 32,∀c∈List.range 5,(s:Int) / 2^c=((s>>>c:Nat):Int):=Qm
def UJ(h:(s>>>d)%2=0):fI f M row s (d+1) acc g=fI f M row s d acc g:=by
 conv=>lhs;unfold fI
 rw[Zde h]
def UK{m:Int} (h:(s>>>d)%2=1) (a:M.getD (s-2^d) 0=m):fI f M row s (d+1) acc g=fI f M row s d (if m=0 then acc else acc+g*f row d*m) (-g):=by
 conv=>lhs;unfold fI
 rw[q' Qa,a]
def JM(h:x<=(n-(d+1))*K)(j:d+1<=n):x<=(n-d)*K:=h9 h (N2 _ Qa)
def UL{y:Nat} (h:x<=(n-(d+1))*K)(p:y<=x+K)(j:d+1<=n):y<=(n-d)*K:=by rw[show n-d=n-(d+1)+1 by omega,Q1,qU];omega
def UM(h:x<=(n-d)*K)(j:n<=5):x<=5*K:=h9 h (N2 _ Qa)
def UN(A:i')(b:List IR)(o n:Nat)(q:Int)(w:World)(L:cI w A b)(hn:b.length=n)(C:∀x∈b,x.l.length=n+1)(h1:1<=n)(h5:n<=5)(hf:fP (P9 (b.map IR.l) q) n):Calls prog 113 #[.slice A n o,q] w (Qt w (ZW (P9 (b.map IR.l) q) n)):=by
 obtain⟨f,aU⟩:=Qu (P9 (b.map IR.l) q);have aO:=w0 fun(row aN:Nat)(h1:row<n)(h2:aN<n) W (F:QB w W)(e1:W.heap[w.heap.size]?=some (.cells #[.slice A n o] 160))(e2:W.heap[w.heap.size+1]?=some (.cells #[q] 3))(e3:W.heap[w.heap.size+2]?=some (.cells #[n] 3))=>TY A b o n q (w.heap.size+1) (w.heap.size+2) w.heap.size row aN W e2 e3 e1 (L.below F) hn C h1 h2;rw[aU]at aO hf |-;clear aU L C hn;obtain⟨P,hP⟩:=Qu (2^n);have bR:2<=P/\P<=32:=by rcases n with _|_|_|_|_|_|n<;>first|omega|(subst hP;decide)
 have bG:=w0 (BD P Qa);have H:=w0 hP;have aS:=w0 hf;have aZ:(D3 (List.replicate P 0))[0]?=some (.int .i64 0):=by rw[jN,gH,Zde Qa];rfl
 have bT:(2:Int)^n=(P:Int):=by rw[<-hP];simp
 clear hP hf;go_enter func113,ntmps113;have aW:=bG.out;go_wp2;clear aZ aW;go_loopw [8] (fun i wr=>∃s:Nat,1<=s/\s<=P/\i=.int .i64 s/\Hid ((wr.heap[w.heap.size]?=some (.cells #[.slice A n o] 160)/\wr.heap[w.heap.size+1]?=some (.cells #[q] 3)/\wr.heap[w.heap.size+2]?=some (.cells #[n] 3)/\ZN 3 wr (w.heap.size+3) (if s<P then fK f n s 0 else fK f n (s-1) (fR f n (dpM f n (s-2)) (s-1)))/\QB w wr))) (fun i _=>P-(intOf i).toNat);case atStart=>
  refine⟨1,sW _,Qa,rfl,?_,?_,?_,?_,?_⟩;·exact Qs
  .exact Qs
  .exact Qs
  .rw[Zde Qa,<-UG h1,H.out];have:=ZN.new (T:=3) (((w.alloc (.cells #[.slice A n o] 160)).alloc (.cells #[q] 3)).alloc (.cells #[n] 3)) ((List.replicate P 0).set 0 1);simp only[hJ]at this;rw[kM];exact this
  .go_grown
 case round=>
  obtain⟨s,N,bV,rfl,z⟩:=hrel;obtain⟨m0,m1,m2,m3,y⟩:=z.out;clear z;have C2:=bk1 m2;by_cases X:s<P
  .have bU:(s:Int)<(P:Int):=Qa
   rw[Zde X]at m3;have E:s∈List.range 32:=w5.2 Qa;obtain⟨aD,aE,aF,aY⟩:=UH n (w5.2 Qa) s (w5.2 (by rw[H.out];exact X)) Qa;obtain⟨row,aC⟩:=Qu (pcn 8 s-1);rw[aC]at aD aE aF;have hO:=w0 fun W=>T7 s Qa W;rw[<-aD]at hO;have bK:=w0 fun(d:Nat)(hd:d<n)(F:(s>>>d)%2=1)=>(by obtain⟨r,rfl⟩:∃r,s=r+1:=⟨s-1,Qa⟩;exact T8 h5 aS.out (by rw[H.out];exact X) hd F:((dpM f n (s-1)).getD (s-2^d) 0).natAbs<=16000000000000/\2^d<=s/\pop n s-1<n);have J:=w0 fun h=>UE (f:=f) (n:=n) (s:=s) N h;have aP:Hid (fI f (dpM f n (s-1)) row s n 0 1=fR f n (dpM f n (s-1)) s):=by unfold fR;rw[aE];exact rfl
   have aJ:=w0 (UI s E);have aR:=w0 (UA s E);obtain⟨V,hV⟩:=Qu (fR f n (dpM f n (s-1)) s);rw[hV]at J aP;have bB:=w0 hV;clear hV aC aD aE E;have E:=w0 (show s<32 by omega);go_wp2_with (go_at_call 123;refine(hO.out _).mono ?_;rintro e w2 ⟨rfl,rfl⟩);clear hO aY;go_loopw [10,11] (fun sg j wr=>∃(c:Nat) (g acc:Int),c<=n/\j=.int .i64 ((c:Int)-1)/\sg=.int .i64 g/\(g=1∨g=-1)/\Hid (fI f (dpM f n (s-1)) row s c acc g=V)/\Hid (acc.natAbs<=(n-c)*6400000000000000)/\Hid ((wr.heap[w.heap.size]?=some (.cells #[.slice A n o] 160)/\wr.heap[w.heap.size+1]?=some (.cells #[q] 3)/\wr.heap[w.heap.size+2]?=some (.cells #[n] 3)/\ZN 3 wr (w.heap.size+3) (fK f n s acc)/\QB w wr))) (fun _ j _=>(intOf j+1).toNat);case atStart=>exact⟨n,1,0,sW _,rfl,rfl,.inl rfl,aP.out,by show (0:Int).natAbs<=_;omega,m0,m1,m2,m3,y⟩
   case round=>
    clear m0 m1 m2 m3 y C2;obtain⟨c',g,acc,hc,rfl,rfl,hg,Z,G,z⟩:=hrel;obtain⟨m0,m1,m2,m3,y⟩:=z.out;clear z;have C2:=bk1 m2;rcases c' with _|d
    .have hj:((0:Nat):Int)-1=-1:=rfl;rw[hj];have aH:acc=V:=Z.out;subst aH;go_wp2;go_roundw;case rel=>
      refine⟨s+1,Qa,Qa,Qj,m0,m1,m2,?_,y⟩;by_cases C:s+1<P;·rw[Zde C,<-J.out (by rw[H.out];exact C)];exact m3
      .rw[q' C,show s+1-1=s by omega,show s+1-2=s-1 by omega,bB.out];exact m3
     case measure=>exact Qv
    .have hj:((d+1:Nat):Int)-1=(d:Int):=Qa
     rw[hj];obtain⟨t,a⟩:=Qu (s>>>d);have bJ:(s:Int) / 2^d=(t:Int):=by rw[<-a];exact aJ.out d (w5.2 Qa)
     have O:t<32:=by
      have:s>>>d<=s:=by rw[AY];exact kI _ _
      have:=E.out;omega
     have R:bits .and .i64 (t:Int) 1=((t%2:Nat):Int):=UB t (w5.2 O);rcases AZ t with F|F
     .rw[F]at R;simp only[uP,uQ,uR]at R;have p:=w0 ((UJ (by rw[a];exact F)).symm.trans Z.out);clear F a O;go_wp2;go_roundw;case rel=>exact⟨d,g,acc,Qa,rfl,rfl,hg,p.out,JM G.out hc,m0,m1,m2,m3,y⟩
      case measure=>exact Qv
     .rw[F]at R;simp only[uP,uQ,uR]at R;obtain⟨z1,z2,z3⟩:=bK.out d Qa (by rw[a];exact F);obtain⟨m,Q⟩:=Qu ((dpM f n (s-1)).getD (s-2^d) 0);have p:=w0 (Z.out.symm.trans (UK (by rw[a];exact F) Q));obtain⟨D,B⟩:=Qu (2^d);have bQ:1<=D:=by rw[<-B];exact Nat.one_le_two_pow
      have bA:(2:Int)^d=(D:Int):=by rw[<-B];simp
      have bL:D<=32:=by rw[B]at z2;omega
      have bC:bits .andNot .i64 (s:Int) (D:Int)=((s-D:Nat):Int):=by rw[<-B];exact aR.out d (w5.2 Qa) (by rw[a];exact F)
      rw[Q]at z1;rw[B]at z2 Q;obtain⟨k,hk⟩:=Qu (s-D);rw[hk]at bC Q;have ck:wr.cell? ⟨w.heap.size+3,k,none⟩=some (.int .i64 m):=m3.load (by rw[UD N Qa,Q]);have bF:(k:Int)<(P:Int):=Qa
      have bN:(s:Int) / (D:Int)=(t:Int):=by rw[<-bA];exact bJ
      clear F a O Q Z hk B;by_cases Y:m=0
      .subst Y;have I:=w0 (show fI f (dpM f n (s-1)) row s d acc (-g)=V from by have:=p.out;rw[Zde rfl]at this;exact this.symm);clear p;have aK:-g=1∨-g=-1:=Qa
       go_wp2;go_roundw;case rel=>exact⟨d,-g,acc,Qa,rfl,rfl,aK,I.out,JM G.out hc,m0,m1,m2,m3,y⟩
       case measure=>exact Qv
      .have aK:-g=1∨-g=-1:=Qa
       have aT:=aS.out row d aF Qa;obtain⟨v,hv⟩:=Qu (f row d);rw[hv]at aT p;have hA:=w0 fun W F e1 e2 e3=>aO.out row d aF Qa W F e1 e2 e3;rw[hv]at hA;obtain⟨g1,S⟩:=Qu (g*v);obtain⟨g3,U⟩:=Qu (g1*m);have aB:g1.natAbs<=400:=by rw[<-S];rcases hg with rfl|rfl<;>omega
       have aV:g3.natAbs<=6400000000000000:=by rw[<-U];exact h9 (g' aB z1) Qc
       have aQ:=UM G.out h5;obtain⟨a2,aG⟩:=Qu (acc+g3);have aA:a2.natAbs<=acc.natAbs+6400000000000000:=Qa
       have bX:IntKind.i64.wrap (g*v)=g1:=by rw[S];exact B3 _ Qa
       have bY:IntKind.i64.wrap (g1*m)=g3:=by rw[U];exact B3 _ Qa
       have bZ:IntKind.i64.wrap (acc+g3)=a2:=by rw[aG];exact B3 _ Qa
       have I:=w0 (show fI f (dpM f n (s-1)) row s d a2 (-g)=V from by have:=p.out;rw[q' Y,S,U,aG]at this;exact this.symm);have aI:=w0 (UL G.out aA hc);have cs:wr.cell? ⟨w.heap.size+3,s,none⟩=some (.int .i64 acc):=m3.load (wR N);have bS : (m != 0) = true := by simpa using Y
       clear p S U aG aB aV aQ aA Y aT z1 hv;have hA2:=w0 fun(x:Grew wr)=>hA.out x.val (via y x.ok) (Zx x.ok m0) (Zx x.ok m1) (Zx x.ok m2);have bW:=m3.size;have bH:(row:Int)+1-1=(row:Int):=Qa
       clear hA;go_wp2;refine B9 w 14 Qb Qb Qi ?_;intro bE bD;simp only[sT,j0,r4,e5];repeat (go_big_quiet_step ((go_at_call 122;with_reducible exact Zd (hA2.out _))))
       refine ZyG ?_;intro wb u aM bI;clear bE bD;have n0:=Zx u m0;have n1:=Zx u m1;have n2:=Zx u m2;have n3:=m3.below u;have bO:=n3.load (wR N);have bP:=n3.frozen s;clear m0 m1 m2 m3 C2 cs ck hA2;go_wp2;go_roundw;case rel=>have n4:=n3.store s a2;rw[UC N]at n4;exact⟨d,-g,a2,Qa,rfl,rfl,aK,I.out,aI.out,ZB n0 Qf _,ZB n1 Qf _,ZB n2 Qf _,n4,aM.setCell Qf _⟩
       case measure=>exact Qv
  .have aX:s=P:=Qa
   subst aX;rw[q' Qa]at m3;have aL:=m3.load (k:=s-1) (x:=ZW f n) (by have:=UF (f:=f) (n:=n) (s:=s-1) Qa (by rw[H.out];omega);rw[H.out]at this;exact this);obtain⟨k,hk⟩:=Qu (s-1);rw[hk]at aL;have bF:(s:Int)-1=(k:Int):=Qa
   have bM:(k:Int)<(s:Int):=Qa
   clear X;go_wp2;go_ret;exact⟨rfl,y⟩
variable {es:e6} {np:Nat}
structure RightE (es:e6)(np:Nat):Prop where
 n8:es.length<=8
 co:∀x∈es,x.co.length=np/\ZK 20 x.co/\x.mo.natAbs<=20
def exs(es:e6):List Ex:=es.map En.ex
def W9{k:Nat} {x:En} (h:es[k]?=some x):(exs es).getD k default=(x.co,x.mo):=by simp[exs,D1,h,En.ex]
def RightE.exs_co(h:RightE es np):∀x∈exs es,ZK 20 x.1:=fun x j=>by obtain⟨y,p,rfl⟩:=b3.1 j;exact(h.co y p).2.1
def RightE.exs_mo(h:RightE es np):∀x∈exs es,x.2.natAbs<=20:=fun x j=>by obtain⟨y,p,rfl⟩:=b3.1 j;exact(h.co y p).2.2
def Z7(es:e6):(exs es).length=es.length:=sA ..
def BY(pA r wA:i')(pn pc ec wc np:Nat)(es:e6)(W:L')(a m:Int)(c:Nat)(w:World)(C:RightE es np)(hE:h7 w r es)(hW:At 1 Zc w wA W)(Q:W.length=es.length)(hc:c<np)(sW:ZK 10000000000000000 W):Calls prog 72 #[.agg #[.slice pA pn pc,.slice r es.length ec],.agg #[a,m,.slice wA W.length wc],c] w (Qt w (putsL (exs es) W c)):=by
 have h8:=C.n8;have j:=w0 fun k D=>wO c (exs es) W k (by rw[Z7];exact D) (by rw[Q];exact D);have F:=w0 fun k=>jR (X:=20) (Y:=10000000000000000) c (exs es) W k C.exs_co sW;have p:=w0 (show putsL ((exs es).take es.length) (W.take es.length) c=putsL (exs es) W c by rw[<-Z7,x1,Z7,<-Q,x1]);have gE:=w0 fun y (P:QB w y) k (D:k<es.length)=>(by
  obtain⟨b,o,hA,h,H⟩:=(hE.below P).1 k _ (h' D);have hx:=D2 D;obtain⟨h1,h2,-⟩:=C.co _ hx;obtain⟨E,o2,hA2,Z,aF⟩:=D9 ((hE.below P).2 _ hx) (k:=c) Qa;refine⟨es[k],b,o,E,o2,hA,h,Z,hA2,h1,?_,?_,?_,aF,h2.get c,W9 (h' D)⟩;·simpa using H 0 _ rfl
  .have:=H 1 _ rfl;rw[hA2]at this;exact this
  .exact H 2 _ rfl:∃x:En,∃b o E o2,r=some ⟨b,o,none⟩/\b<y.heap.size/\E<y.heap.size/\x.A=some ⟨E,o2,none⟩/\x.co.length=np/\y.cell? ⟨b,o+k*3,none⟩=some (.string x.nm)/\y.cell? ⟨b,o+k*3+1,none⟩=some (.slice (some ⟨E,o2,none⟩) x.co.length x.c)/\y.cell? ⟨b,o+k*3+2,none⟩=some (.int .i64 x.mo)/\y.cell? ⟨E,o2+c,none⟩=some (.int .i64 (x.co.getD c 0))/\(x.co.getD c 0).natAbs<=20/\(exs es).getD k default=(x.co,x.mo));have gW:=w0 fun y (P:QB w y) k (D:k<es.length)=>D9 (hW.below P) (k:=k) Qa;have sw:=w0 sW.get;obtain⟨N,B⟩:=Qu es.length;rw[Q,B];rw[B]at j p gE gW h8;obtain⟨S,hS⟩:∃S:Nat->Int,(fun k=>putsL ((exs es).take k) (W.take k) c)=S:=⟨_,rfl⟩;have V:∀k,putsL ((exs es).take k) (W.take k) c=S k:=fun k=>by rw[<-hS]
 have aB:S 0=0:=by rw[<-hS];cases es<;>cases W<;>simp[putsL,exs]
 simp only[Z7,B,V]at p j F;obtain⟨R,U⟩:=Qu (putsL (exs es) W c);rw[U]at p |-;clear hE hW Q sW hS V U C B;go_enter func72,ntmps72;go_wp2;go_loopw [7,13] (fun s i wr=>∃k:Nat,k<=N/\i=.int .i64 k/\s=.int .i64 (S k)/\wr.heap[w.heap.size]?=some (.cells #[.slice pA pn pc,.slice r N ec] 25)/\wr.heap[w.heap.size+1]?=some (.cells #[a,m,.slice wA N wc] 32)/\QB w wr)(fun _ i _=>N-(intOf i).toNat);case atStart=>exact⟨0,k2 _,rfl,by rw[aB],Qs,Qs,Qi⟩
 case round=>
  obtain⟨k,D,rfl,rfl,m0,m1,G⟩:=hrel;have C0:=bk2 m0;have C1:=bk3 m1;by_cases h:k<N
  .have aJ:(k:Int)<(N:Int):=Qa
   obtain⟨x,b,o,E,o2,hA1,aK,aL,hA2,aH,c0,c1,c2,c3,aA,hg⟩:=gE.out wr G k h;obtain⟨b3,o3,hA3,aM,c4⟩:=gW.out wr G k h;subst hA1;subst hA3;have J:=j.out k h;rw[hg]at J;have hm:=g' (sw.out k) aA;have aC:=l4 (F.out k) D;have aD:=l4 (F.out (k+1)) h;have h9:=N2 (10000000000000000*20) h8;have aI:(c:Int)<(x.co.length:Int):=Qa
   obtain⟨u,hu⟩:=Qu (W.getD k 0);obtain⟨v,hv⟩:=Qu (x.co.getD c 0);rw[hu]at c4 J hm;dsimp only at J;rw[hv]at c3 J hm;obtain⟨z,hz⟩:=Qu (u*v);rw[hz]at J hm;have aN:IntKind.i64.wrap (u*v)=z:=by rw[hz];exact B3 _ Qa
   have aO:IntKind.i64.wrap (S k+z)=S (k+1):=by rw[<-J];exact B3 _ Qa
   generalize x.co.length=L at*;clear hz J hm aC aD hu hv h9 aA hg hA2 aH;go_wp2;refine c8 w Qb Qb Qi ?_;intro aG aE;repeat (go_big_quiet_step (fail))
   refine ZyG ?_;intro wb q O I;clear aG aE;simp only[hJ]at I;have n0:=Zx q (Zz m0 _);have n1:=Zx q (Zz m1 _);clear m0 m1 C0 C1 c0 c1 c2 c3 c4;go_wp2;go_roundw;case rel=>exact⟨k+1,Qa,Qj,rfl,n0,n1,O⟩
   case measure=>exact Qv
  .obtain rfl:k=N:=Qa
   have e:S k=R:=p.out;clear h;go_wp2;go_ret;exact⟨aU e,G⟩
def UO(pA r wA:i')(pn pc ec wc np:Nat)(es:e6)(W:L')(a m:Int)(w:World)(l:RightE es np)(hE:h7 w r es)(hW:At 1 Zc w wA W)(B:W.length=es.length)(sW:ZK 10000000000000000 W):Calls prog 73 #[.agg #[.slice pA pn pc,.slice r es.length ec],.agg #[a,m,.slice wA W.length wc]] w (Qt w (spentL (exs es) W)):=by
 have h8:=l.n8;have j:=w0 fun k y=>wP (exs es) W k (by rw[Z7];exact y) (by rw[B];exact y);have E:=w0 fun k=>iC (X:=20) (Y:=10000000000000000) (exs es) W k l.exs_mo sW;have p:=w0 (show spentL ((exs es).take es.length) (W.take es.length)=spentL (exs es) W by rw[<-Z7,x1,Z7,<-B,x1]);have gE:=w0 fun D (P:QB w D) k (y:k<es.length)=>(by
  obtain⟨b,o,hA,h,G⟩:=(hE.below P).1 k _ (h' y);have hx:=D2 y;obtain⟨h1,h2,-⟩:=l.co _ hx;have O:=(l.co _ hx).2.2;refine⟨es[k],b,o,hA,h,?_,?_,?_,O,W9 (h' y)⟩;·simpa using G 0 _ rfl
  .exact G 1 _ rfl
  .exact G 2 _ rfl:∃x:En,∃b o,r=some ⟨b,o,none⟩/\b<D.heap.size/\D.cell? ⟨b,o+k*3,none⟩=some (.string x.nm)/\D.cell? ⟨b,o+k*3+1,none⟩=some (.slice x.A x.co.length x.c)/\D.cell? ⟨b,o+k*3+2,none⟩=some (.int .i64 x.mo)/\x.mo.natAbs<=20/\(exs es).getD k default=(x.co,x.mo));have gW:=w0 fun D (P:QB w D) k (y:k<es.length)=>D9 (hW.below P) (k:=k) Qa;have sw:=w0 sW.get;obtain⟨N,t⟩:=Qu es.length;rw[B,t];rw[t]at j p gE gW h8;obtain⟨S,C⟩:∃S:Nat->Int,(fun k=>spentL ((exs es).take k) (W.take k))=S:=⟨_,rfl⟩;have V:∀k,spentL ((exs es).take k) (W.take k)=S k:=fun k=>by rw[<-C]
 have aA:S 0=0:=by rw[<-C];cases es<;>cases W<;>simp[spentL,exs]
 simp only[Z7,t,V]at p j E;obtain⟨R,U⟩:=Qu (spentL (exs es) W);rw[U]at p |-;clear hE hW B sW C V U l t;go_enter func73,ntmps73;go_wp2;go_loopw [5,11] (fun s i wr=>∃k:Nat,k<=N/\i=.int .i64 k/\s=.int .i64 (S k)/\wr.heap[w.heap.size]?=some (.cells #[.slice pA pn pc,.slice r N ec] 25)/\wr.heap[w.heap.size+1]?=some (.cells #[a,m,.slice wA N wc] 32)/\QB w wr)(fun _ i _=>N-(intOf i).toNat);case atStart=>exact⟨0,k2 _,rfl,by rw[aA],Qs,Qs,Qi⟩
 case round=>
  obtain⟨k,y,rfl,rfl,m0,m1,F⟩:=hrel;have C0:=bk2 m0;have C1:=bk3 m1;by_cases h:k<N
  .have aF:(k:Int)<(N:Int):=Qa
   obtain⟨x,b,o,hA1,aG,c0,c1,c2,Z,hg⟩:=gE.out wr F k h;obtain⟨b3,o3,hA3,aH,c4⟩:=gW.out wr F k h;subst hA1;subst hA3;have I:=j.out k h;rw[hg]at I;have O:=g' (sw.out k) Z;have aB:=l4 (E.out k) y;have aC:=l4 (E.out (k+1)) h;have h9:=N2 (10000000000000000*20) h8;obtain⟨u,hu⟩:=Qu (W.getD k 0);obtain⟨v,hv⟩:=Qu x.mo;rw[hu]at c4 I O;dsimp only at I;rw[hv]at c2 I O;obtain⟨z,Q⟩:=Qu (u*v);rw[Q]at I O;have aI:IntKind.i64.wrap (u*v)=z:=by rw[Q];exact B3 _ Qa
   have aJ:IntKind.i64.wrap (S k+z)=S (k+1):=by rw[<-I];exact B3 _ Qa
   generalize x.co.length=L at*;clear Q I O aB aC hu hv h9 Z hg;go_wp2;refine c8 w Qb Qb Qi ?_;intro aE aD;repeat (go_big_quiet_step (fail))
   refine ZyG ?_;intro wb q J H;clear aE aD;simp only[hJ]at H;have n0:=Zx q (Zz m0 _);have n1:=Zx q (Zz m1 _);clear m0 m1 C0 C1 c0 c1 c2 c4;go_wp2;go_roundw;case rel=>exact⟨k+1,Qa,Qj,rfl,n0,n1,J⟩
   case measure=>exact Qv
  .obtain rfl:k=N:=Qa
   have e:S k=R:=p.out;clear h;go_wp2;go_ret;exact⟨aU e,F⟩
end Go.Proofs
namespace Go.Proofs
open Go.RowKit
variable {w w':World} {base:Nat} {e:aN} {v:Value}
def UP(a:QB w w'):w.grownBy w' none:=⟨a.os,a.tape,a.output,a.size,fun k h _=>a.block k h⟩
def ZI{size:Nat} {n:Nat} {d:hD} (h:w.ownsRow base e size v n d)(hb:QB w w'):w'.ownsRow base e size v n d:=h.kept (UP hb) (by cases v.ownBlock<;>simp)
def JN{α β:Type} (cs:α->List β)(b:Nat)(p:∀x,(cs x).length=b):∀(l:List α)(k j:Nat)(x:α)(v:β),l[k]?=some x->(cs x)[j]?=some v->(l.flatMap cs)[k*b+j]?=some v|[],k,j,x,v,h,_=>by simp at h|a::l,0,j,x,v,h,hv=>by simp only[B4,M3]at h;subst h;rw[rW,gD,m',aW (p1.1 hv).1];exact hv|a::l,k+1,j,x,v,h,hv=>by simp only[p0]at h;have q:=JN cs b p l k j x v h hv;rw[rW,bA (by rw[p];rw[x8];omega),p,show (k+1)*b+j-b=k*b+j by rw[x8];omega];exact q
def y5{α:Type} {cs:α->List Value} {sz:Nat} {l:List α} (q:∀x,(cs x).length=sz)(h:w.ownsRow base e sz v l.length (l.flatMap cs)):∃A p,v=.slice A l.length p/\At sz cs w A l:=by
 rcases h.2 with⟨rfl,L⟩|⟨g,p,F,rfl,O,J,N,G,H,S⟩;·have:l=[]:=eX L;subst this;exact⟨none,0,rfl,fun k x y=>by simp at y⟩
 .refine⟨some ⟨g,0,none⟩,p,rfl,fun k x y=>⟨g,0,rfl,(bO.1 J).1,fun j u E=>?_⟩⟩;have I:=JN cs sz q l k j x u y E;have R:j<sz:=by rw[<-q x];exact(p1.1 E).1
  have z:k<l.length:=(p1.1 y).1;have D:k*sz+j<l.length*sz:=by have:=N2 sz (Nat.succ_le_of_lt z);rw[x8]at this;omega
  rw[m',h.cellAt _ D];exact I
variable {w w' x x':World} {base size n sz b c:Nat} {e:aN} {v:Value} {xs:hD} {row:hB} {A:i'}
def Z3(h:w.ownsRow base e size v n xs):∃A c,v=.slice A n c:=by
 rcases h.2 with⟨rfl,rfl⟩|⟨g,j,p,q,-⟩;·exact⟨none,0,rfl⟩
 .exact⟨_,_,q⟩
def b2{j:Nat} (h:w.ownsRow j e size v n xs)(hb:base<=j):w.ownsRow base e size v n xs:=by
 refine⟨h.1,?_⟩;rcases h.2 with h|⟨g,p,q,u,y,z⟩;·exact .inl h
 .exact .inr ⟨g,p,q,u,h9 hb y,z⟩
def Z1(h:w.ownsRow base e sz v n xs)(hb:∀g,v.ownBlock=some g->w'.heap[g]?=w.heap[g]?):w'.ownsRow base e sz v n xs:=by
 refine⟨h.1,?_⟩;rcases h.2 with h|⟨g,j,p,rfl,q,u,y⟩;·exact .inl h
 .exact .inr ⟨g,j,p,rfl,q,(hb g rfl).trans u,y⟩
def tR(h:w.ownsRow base e sz v n xs)(j:w.grownBy w' row)(hne:∀g,v.ownBlock=some g->some g≠row):w'.ownsRow base e sz v n xs:=Z1 h fun g e=>j.block g (h.lt g e).2 (hne g e)
def P3(h:w.ownsRow base e size v n xs)(hb:b<base):some b≠v.ownBlock:=by intro j;have:=(h.lt b j.symm).1;omega
def b5{o:Obj} (j:x.grownBy x' row)(h:x.heap[b]?=some o)(hne:some b≠row):x'.heap[b]?=some o:=(j.block b (tA h) hne).trans h
def ZS(h:QB w x)(j:x.grownBy x' row)(p:∀b,row=some b->w.heap.size<=b):QB w x':=h.grown j h.size p
def D7(w:World)(d:hD)(t:aN)(p:n=w.heap.size):∀j u,d[j]?=some u->(w.alloc (.cells d.toArray t)).cell? (Addr.add ⟨n,0,none⟩ j)=some u:=by
 subst p;intro j u q;have h:=kF w (.cells d.toArray t);have e:Addr.add ⟨w.heap.size,0,none⟩ j=⟨w.heap.size,j,none⟩:=by unfold Addr.add;split<;>simp_all
 rw[e];unfold World.cell?;simp only[h];simpa using q
def X5(h:w.ownsRow base e 1 (.slice A n c) n xs) {k:Nat} {u:Value} (d:xs[k]?=some u):∃g,A=some ⟨g,0,none⟩/\base<=g/\g<w.heap.size/\w.cell? ⟨g,k,none⟩=some u:=by
 rcases h.2 with⟨-,j⟩|⟨g,q,y,z,j,p,E,F,G,D⟩;·have:=h.1;rw[j,gD]at this;have:xs=[]:=eX this;subst this;simp at d
 .cases z;refine⟨g,rfl,j,(bO.1 p).1,?_⟩;unfold World.cell?;simp only[p];have H:=(p1.1 d).1;have:=h.1;rw[<-D,eY,Zde Qa,nY]at d;simpa using d
def e7{l:L'} (h:w.ownsRow base e 1 (.slice A n c) n (l.map (Value.int .i64))):At 1 Zc w A l:=by intro k x D;obtain⟨g,z,E,q,y⟩:=X5 h (k:=k) (u:=.int .i64 x) (by rw[C2,D];rfl);refine⟨g,0,z,q,fun j v p=>?_⟩;cases j with|zero=>simp[Zc]at p;subst p;simpa using y|succ j=>simp[Zc]at p
def UQ{P:Prop} (h:Hid P):P:=h.out
end Go.Proofs
namespace Go.Proofs
open Tryz
open Go.RowKit
variable {r:List (List Int)}
def qOf(h:hB):Int:=match h with|none=>-1|some c=>(c:Int)
def kO(r:List (List Int))(j:hB):P9 r (qOf j)=colF r j:=by funext i c;unfold P9 colF;cases j with
 |none=>
  have:¬((c:Int)=qOf none):=by show ¬((c:Int)=-1);omega
  rw[q' this,q' Qd]|some d=>
  unfold qOf;by_cases h:d=c;·subst h;simp
  .have p:¬((c:Int)=(d:Int)):=Qa
   have q:¬(some d=some c):=by simpa using h
   rw[q' p,q' q]
def gW(r:List (List Int)):Prop:=∀row∈r,ZK 400 row
def gW.entR(h:gW r)(i j:Nat):(entR r i j).natAbs<=400:=by unfold Go.Proofs.entR;rw[D1 (l:=r)];cases c:r[i]? with|none=>simp|some row=>exact(h row (k3 c)).get j
def gW.col(h:gW r)(q:Int)(n:Nat):fP (P9 r q) n:=fun i j _ _=>h.entR _ _
def UR{f:aB} {n:Nat} (h:n<=5)(a:fP f n):(ZW f n).natAbs<=32000000000000000:=by unfold ZW;have j:=iP n;have:=wQ h a (2^n-1) Qa (2^n-1) (sW _);refine h9 this ?_;have p:=iQ n (w5.2 Qa) (2^n-1) (w5.2 Qa);exact h9 (kL Qa (show pop n (2^n-1)<=5 by omega)) Qc
def mO(r:List (List Int))(h:Nat)(e:Ending)(a:World):Prop:=match C0 r with|none=>e=.returned (.tuple #[.slice none 0 0,(0:Int),false])|some (l,den)=>∃v,e=.returned (.tuple #[v,den,true])/\a.ownsRow h 3 1 v l.length (l.map (Value.int .i64))
def US(A:i')(a:List IR)(p:Nat)(h:hB)(w:World)(j:cI w A a)(u:∀x∈a,x.l.length=a.length+1)(q:1<=a.length)(b:a.length<=5)(c:gW (a.map IR.l)):Calls prog 113 #[.slice A a.length p,(qOf h)] w (Qt w (Z0 (a.map IR.l) h)):=by have:=UN A a p a.length (qOf h) w j rfl u q b (c.col _ _);rw[kO]at this;unfold Z0;rw[sA];exact this
def BZ(A:i')(a:List IR)(cp:Nat)(w:World)(aC:cI w A a)(hl:∀x∈a,x.l.length=a.length+1)(h1:1<=a.length)(h5:a.length<=5)(hs:gW (a.map IR.l)):Calls prog 100 #[.slice A a.length cp] w fun e w'=>mO (a.map IR.l) w.heap.size e w'/\QB w w':=by
  have C:=w0 fun R W (d:QB w W)=>US A a cp R W (aC.below d) hl h1 h5 hs;have aG:=w0 fun R=>(by have:=UR h5 (hs.col (qOf R) a.length);rw[kO]at this;unfold Z0;rw[sA];exact this:(Z0 (a.map IR.l) R).natAbs<=32000000000000000);have O:(a.map IR.l).length=a.length:=sA ..;obtain⟨N,hN⟩:=Qu a.length;obtain⟨r,hr⟩:=Qu (a.map IR.l);rw[hN]at C h5 h1 O |-;rw[hr]at C aG O |-;have aK:=w0 O;clear aC hl hs hN hr O;have aF:=w0 fun W d=>C.out none W d;have aQ:=aG.out none;obtain⟨z,aJ⟩:=Qu (Z0 r none);rw[aJ]at aF aQ;have aA:=w0 aJ;by_cases hz:z=0
  . subst hz;go_enter func100,ntmps100;go_wp2_with (go_at_call 113;refine(aF.out _ (l3 _ _)).mono ?_;rintro e w1 ⟨rfl,G⟩);refine r3 (v:=.tuple #[.slice none 0 0,(0:Int),false]) ?_ rfl ⟨?_,G⟩;· simp[results,results100,go_sem]
    . unfold mO C0;rw[Zde aA.out]
  . have aT:(z==0)=false:=by simpa using hz
    have J:=w0 (show C0 r=some ((List.range N).map fun i=>gZ z*Z0 r (some i),gZ z*z)from by unfold C0;rw[q' (by rw[aA.out];exact hz),aA.out,aK.out]);obtain⟨i0,hi,aN,aO,aP⟩:=n9 info3;clear aJ;by_cases aH:z<0
    . have s:gZ z=-1:=by unfold gZ;rw[Zde aH]
      obtain⟨L,K⟩:∃L:Nat->List Int,(fun k=>(List.range k).map fun i=>gZ z*Z0 r (some i))=L:=⟨_,rfl⟩;have j:∀k,((List.range k).map fun i=>gZ z*Z0 r (some i))=L k:=fun k=>by rw[<-K]
      have U:∀k,L (k+1)=L k++[-1*Z0 r (some k)]:=fun k=>by rw[<-j,<-j,cO,s];simp
      have F:∀k,(L k).length=k:=fun k=>by rw[<-j];simp
      have aI:L 0=[]:=eX (F 0);have V:=w0 U;have S:=w0 F;rw[j]at J;have aS:IntKind.i64.wrap (-z)=-z:=B3 _ Qa;clear K j U F;go_enter func100,ntmps100;go_wp2_with (go_at_call 113;refine(aF.out _ (l3 _ _)).mono ?_;rintro e w1 ⟨rfl,G⟩);go_loopw [7,17] (fun v i wr=>∃k:Nat,k<=N/\i=.int .i64 k/\wr.ownsRow w.heap.size 3 1 v k ((L k).map (Value.int .i64))/\QB w wr)(fun _ i _=>N-(intOf i).toNat);case atStart=>exact⟨0,k2 _,rfl,by rw[aI];exact gE _ _ _ _,G⟩
      case round=>
        clear G;obtain⟨k,hk,rfl,p,H⟩:=hrel;obtain⟨f,B,rfl⟩:=Z3 p;have q:=w0 p;clear p;by_cases aL:k<N
        . have aR:(k:Int)<(N:Int):=Qa
          have E:=w0 fun W d=>C.out (some k) W d;have Y:=aG.out (some k);have M:Hid (qOf (some k)=(k:Int)):=rfl;have hs:=V.out k;obtain⟨x,hx⟩:=Qu (Z0 r (some k));rw[hx]at E Y hs;rw[M.out]at E;have aM:IntKind.i64.wrap (-x)=-x:=B3 _ Qa;have o:=w0 (show L (k+1)=L k++[-x]from by rw[hs];simp);clear hx hs M;go_wp2_with (first
            | (go_at_call 113;refine(E.out _ H).mono ?_;rintro e w2 ⟨rfl,X⟩;have D:=via H X;have h:=w0 (ZI q.out X))|(at_builtin;refine X0 _ rfl _ _ 30 rfl w.heap.size 3 i0 (.int .i64 0) 1 8 underlying30 hi aN aO aP rfl Qc _ _ _ rfl (h.out.alloc _) ⟨w2.heap.size,0,none⟩ 1 1 [.int .i64 (-x)] rfl rfl ?c1 ?c2 ?c3 ?c4 ?c5 ?_));case c1=>exact D7 _ [.int .i64 (-x)] _ Qd
          case c2=>intro u Q;simp at Q;subst Q;rfl
          case c3=>unfold maxLen;omega
          case c4=>omega
          case c5=>have:=D.size;simp;omega
          intro v' w3 y m _;have Z:QB w w3:=ZS (via D (ZC _ _)) m fun b e=>(h.out.lt b e).1;have I:Hid (w3.ownsRow w.heap.size 3 1 v' (k+1) ((L (k+1)).map (Value.int .i64))):=w0 (by rw[o.out,x0];exact y);clear y m h o Y aM;go_wp2;go_roundw;case rel=>exact⟨k+1,Qa,Qj,I.out,Z⟩
          case measure=>exact Qv
        . obtain rfl:k=N:=Qa
          clear aL;go_wp2;refine r3 (v:=.tuple #[.slice f k B,.int .i64 (-z),true]) ?_ rfl ⟨?_,H⟩;· simp[results,results100,go_sem]
          . unfold mO;rw[J.out];exact⟨.slice f k B,by rw[s];simp,by rw[S.out];exact q.out⟩
    . have s:gZ z=1:=by unfold gZ;rw[q' aH]
      obtain⟨L,K⟩:∃L:Nat->List Int,(fun k=>(List.range k).map fun i=>gZ z*Z0 r (some i))=L:=⟨_,rfl⟩;have j:∀k,((List.range k).map fun i=>gZ z*Z0 r (some i))=L k:=fun k=>by rw[<-K]
      have U:∀k,L (k+1)=L k++[1*Z0 r (some k)]:=fun k=>by rw[<-j,<-j,cO,s];simp
      have F:∀k,(L k).length=k:=fun k=>by rw[<-j];simp
      have aI:L 0=[]:=eX (F 0);have V:=w0 U;have S:=w0 F;rw[j]at J;have aS:IntKind.i64.wrap (z)=z:=B3 _ Qa;clear K j U F;go_enter func100,ntmps100;go_wp2_with (go_at_call 113;refine(aF.out _ (l3 _ _)).mono ?_;rintro e w1 ⟨rfl,G⟩);go_loopw [7,17] (fun v i wr=>∃k:Nat,k<=N/\i=.int .i64 k/\wr.ownsRow w.heap.size 3 1 v k ((L k).map (Value.int .i64))/\QB w wr)(fun _ i _=>N-(intOf i).toNat);case atStart=>exact⟨0,k2 _,rfl,by rw[aI];exact gE _ _ _ _,G⟩
      case round=>
        clear G;obtain⟨k,hk,rfl,p,H⟩:=hrel;obtain⟨f,B,rfl⟩:=Z3 p;have q:=w0 p;clear p;by_cases aL:k<N
        . have aR:(k:Int)<(N:Int):=Qa
          have E:=w0 fun W d=>C.out (some k) W d;have Y:=aG.out (some k);have M:Hid (qOf (some k)=(k:Int)):=rfl;have hs:=V.out k;obtain⟨x,hx⟩:=Qu (Z0 r (some k));rw[hx]at E Y hs;rw[M.out]at E;have aM:IntKind.i64.wrap (x)=x:=B3 _ Qa;have o:=w0 (show L (k+1)=L k++[x]from by rw[hs];simp);clear hx hs M;go_wp2_with (first
            | (go_at_call 113;refine(E.out _ H).mono ?_;rintro e w2 ⟨rfl,X⟩;have D:=via H X;have h:=w0 (ZI q.out X))|(at_builtin;refine X0 _ rfl _ _ 30 rfl w.heap.size 3 i0 (.int .i64 0) 1 8 underlying30 hi aN aO aP rfl Qc _ _ _ rfl (h.out.alloc _) ⟨w2.heap.size,0,none⟩ 1 1 [.int .i64 (x)] rfl rfl ?c1 ?c2 ?c3 ?c4 ?c5 ?_));case c1=>exact D7 _ [.int .i64 (x)] _ Qd
          case c2=>intro u Q;simp at Q;subst Q;rfl
          case c3=>unfold maxLen;omega
          case c4=>omega
          case c5=>have:=D.size;simp;omega
          intro v' w3 y m _;have Z:QB w w3:=ZS (via D (ZC _ _)) m fun b e=>(h.out.lt b e).1;have I:Hid (w3.ownsRow w.heap.size 3 1 v' (k+1) ((L (k+1)).map (Value.int .i64))):=w0 (by rw[o.out,x0];exact y);clear y m h o Y aM;go_wp2;go_roundw;case rel=>exact⟨k+1,Qa,Qj,I.out,Z⟩
          case measure=>exact Qv
        . obtain rfl:k=N:=Qa
          clear aL;go_wp2;refine r3 (v:=.tuple #[.slice f k B,(z),true]) ?_ rfl ⟨?_,H⟩;· simp[results,results100,go_sem]
          . unfold mO;rw[J.out];exact⟨.slice f k B,by rw[s];simp,by rw[S.out];exact q.out⟩
end Go.Proofs
namespace Go.Proofs
variable {n k:Nat} {l W ws:L'} {den lev x g:Int} {es:aF}
def mH:Nat->Nat|0=>1|n+1=>(n+1)*mH n
def HX{f:aB} {M:L'} {row set Z:Nat}:∀(c:Nat)(a p:Int),(p=1∨p=-1)->(∀j,j<c->(f row j).natAbs<=400)->(∀j,j<c->(set>>>j)%2=1->(M.getD (set-2^j) 0).natAbs<=Z)->(fI f M row set c a p).natAbs<=a.natAbs+pop c set*(400*Z)
 |0,a,_,_,_,_=>by unfold fI;omega|c+1,a,p,hs,hf,hM=>by
  unfold fI pop;have y:(-p=1∨-p=-1):=Qa
  split;·rename_i z;have:=HX c a p hs (fun j u=>hf j Qa) fun j u=>hM j Qa;rw[z,w7];exact this
  .rename_i z;have q:(set>>>c)%2=1:=Qa
   have E:=g' (hf c Qa) (hM c Qa q);have D:∀h,h.natAbs<=a.natAbs+400*Z->(fI f M row set c h (-p)).natAbs<=a.natAbs+(pop c set+1)*(400*Z):=fun h F=>by have:=HX c h (-p) y (fun j u=>hf j Qa) fun j u=>hM j Qa;rw[Q1];omega
   rw[q];refine D _ ?_;split;·omega
   .rw[xT];rcases hs with rfl|rfl<;>omega
def wS{f:aB} {n:Nat} (E:n<=5)(a:fP f n):∀s,s<2^n->∀k,k<=s->((dpM f n s).getD k 0).natAbs<=mH (pop n k)*400^pop n k
 |0,_,k,hk=>by
  obtain rfl:k=0:=Qa
  have:∀m,pop m 0=0:=fun m=>by induction m with|zero=>rfl|succ m u=>unfold pop;rw[u];simp
  rw[this];simp[dpM,mH]|s+1,hs,k,hk=>by
  have u:=wS E a s Qa;have N:=S3 f n s;unfold dpM;by_cases z:k<=s;·rw[BX Qa];exact u k z
  .obtain rfl:k=s+1:=Qa
   rw[rD Qa];have h:n∈List.range 6:=w5.2 Qa;have q:s+1∈List.range (2^n):=w5.2 hs;have G:=BW n h _ q Qa;have H:=iQ n h _ q;unfold fR;have:=HX (f:=f) (M:=dpM f n s) (row:=pop n (s+1)-1) (set:=s+1) (Z:=mH (pop n (s+1)-1)*400^(pop n (s+1)-1)) n 0 1 (.inl rfl) (fun j y=>a _ _ Qa y) fun j y D=>by obtain⟨I,J⟩:=rC n h _ q j (w5.2 y) D;have L:=iP j;have:=u (s+1-2^j) Qa;rwa [show pop n (s+1-2^j)=pop n (s+1)-1 by omega]at this
   refine h9 this ?_;obtain⟨p,F⟩:∃p,pop n (s+1)=p+1:=⟨pop n (s+1)-1,Qa⟩;rw[F];simp only[eE,Int.natAbs_zero,m',qT,mH];refine U0 ?_;ac_rfl
def UT{f:aB} (j:n<=5)(a:fP f n):(ZW f n).natAbs<=1228800000000000:=by
 unfold ZW;have q:=iP n;have:=wS j a (2^n-1) Qa (2^n-1) (sW _);refine h9 this ?_;have u:=iQ n (w5.2 Qa) (2^n-1) (w5.2 Qa);have h:pop n (2^n-1)<=5:=Qa
 generalize pop n (2^n-1)=p at h;have:∀p,p<=5->mH p*400^p<=1228800000000000:=Qc
 exact this p h
def rF{r:List (List Int)} (h:C0 r=some (l,den))(a:r.length<=5)(hs:gW r):l.length=r.length/\den.natAbs<=1228800000000000/\0<den/\ZK 1228800000000000 l:=by
 have q:∀j,(Z0 r j).natAbs<=1228800000000000:=fun j=>by have:=UT a (hs.col (qOf j) r.length);rw[kO]at this;exact this
 have p:∀d x:Int,(gZ d*x).natAbs=x.natAbs:=fun d x=>by unfold gZ;split<;>omega
 unfold C0 at h;split at h;·cases h
 rename_i y;obtain⟨rfl,rfl⟩:_/\_:=by simpa using h
 refine⟨Qd,by rw[p];exact q _,?_,fun x u=>?_⟩;·unfold gZ;split<;>omega
 .obtain⟨i,-,rfl⟩:=b3.1 u;rw[p];exact q _
def ZN.at'{T:aN} {W:World} {B:Nat} (h:ZN T W B l):At 1 Zc W (some ⟨B,0,none⟩) l:=by intro k x q;refine⟨B,0,rfl,h.size,fun j v p=>?_⟩;cases j with|zero=>simp[Zc]at p;subst p;simpa using h.load q|succ j=>simp[Zc]at p
def wT{l:L'} {K:Nat} (p:ZK K l):∀(t:y0)(k:Nat)(W:L'),ZK K W->ZK K (putW l k t W)
 |[],_,_,h=>h|i::t,k,W,h=>by
  unfold putW;refine wT p t (k+1) _ fun x j=>?_;rcases kK j with j|rfl;·exact h x j
  .exact p.get _
def JO(l:L'):∀(t:y0)(k:Nat)(W:L')(i:Nat),putW l k (t++[i]) W=(putW l k t W).set i (l.getD (k+t.length+1) 0)|[],k,W,i=>rfl|j::t,k,W,i=>by simp only[hP,putW,y'];rw[JO l t (k+1) _ i,show k+1+t.length+1=k+(t.length+1)+1 by omega]
def UU(l:L') {t:y0} {i:Nat} (h:t[k]?=some i):putW l 0 (t.take (k+1)) W=(putW l 0 (t.take k) W).set i (l.getD (k+1) 0):=by have j:k<t.length:=(p1.1 h).1;rw[w9,h];have:=JO l (t.take k) 0 W i;rwa [Q3,Dn Qa,m']at this
def UW(a:k<n)(h:l.getD (k+1) 0<0):(List.range n).any (fun k=>l.getD (k+1) 0<0)=true:=by rw[h0];exact⟨k,w5.2 a,by simpa using h⟩
def UX(h:∀k,k<n->¬(l.getD (k+1) 0<0)):(List.range n).any (fun k=>l.getD (k+1) 0<0)=false:=by rw[bY];intro k j;simpa using h k (w5.1 j)
def wU(es:aF)(den lev:Int)(W:L'):∀(ws:L')(p:Nat),hZ es den lev W p ws=true↔∀j,j<ws.length->lev<=ws.getD j 0*den+putsL es W (p+j)
 |[],_=>by simp[hZ]|w::ws,p=>by
  unfold hZ;rw[aY,h6,wU es den lev W ws (p+1)];constructor;·rintro⟨u,y⟩ j q;cases j with|zero=>simpa using u|succ j=>have:=y j (by simpa using q);rwa [show p+1+j=p+(j+1)by omega]at this
  .intro h;refine⟨by simpa using h 0 Qd,fun j q=>?_⟩;have:=h (j+1) (by simpa using q);rwa [show p+(j+1)=p+1+j by omega]at this
def UY{j:Nat} (q:j<ws.length)(h:ws.getD j 0*den+putsL es W j<lev):hZ es den lev W 0 ws=false:=by rw[Bool.eq_false_iff];intro p;have:=(wU es den lev W ws 0).1 p j q;rw[m']at this;omega
def UZ(h:∀j,j<ws.length->¬(ws.getD j 0*den+putsL es W j<lev)):hZ es den lev W 0 ws=true:=(wU es den lev W ws 0).2 fun j p=>by have:=h j p;rw[m'];omega
def jS(a:0<g)(j:g∣x):x.tdiv g=x / g/\(x / g).natAbs<=x.natAbs:=by
 obtain⟨y,rfl⟩:=j;have h:g≠0:=Qa
 rw[Int.mul_tdiv_cancel_left _ h,PL _ h];refine⟨rfl,?_⟩;rw[eQ];exact A0 _ Qa
def R7{K:Nat} (a:0<g)(j:g∣x)(d:x.natAbs<=K)(q:K<=9000000000000000000):IntKind.i64.wrap (x.tdiv g)=x / g:=by obtain⟨h,p⟩:=jS a j;rw[h];exact B3 _ Qa
def U3{w:World} {R base:Nat} (h:ZN 3 w R l)(j:l.length=n)(p:n<=1000)(hb:base<=R):w.ownsRow base 3 1 (.slice (some R) n n) n (l.map (Value.int .i64)):=by refine⟨by simpa using j,.inr ⟨R,n,_,rfl,hb,h,sW _,Qq,by rw[BI];omega,?_⟩⟩;simp only[D3,w8,hM,List.toList_toArray];rw[e0 Qk]
def CA(h:k<W.length):(((W.take k).map (· / g))++W.drop k).set k (W.getD k 0 / g)=(W.take (k+1)).map (· / g)++W.drop (k+1):=by have j:=h' h;rw[D1,j,w9,j,kJ h,iA _ _ Qk,x0,b7];rw[show k-((W.take k).map (· / g)).length=0 from Qk];rfl
def CC(h:k<W.length):(((W.take k).map (· / g))++W.drop k)[k]?=some (W.getD k 0):=by rw[bA Qk];simp[Dn (Nat.le_of_lt h),D1,h]
end Go.Proofs
namespace Go.Proofs
open Tryz
open Go.RowKit
def kQ(s:ByteArray)(w:World)(b:s.size<=9223372036854775807):Calls prog 8 #[.string s] w fun e a=>e=.returned (hT s.data.toList)/\w=a:=by
  have h:Hid (s.data.toList.length=s.size):=by simp[Hid]
  by_cases O:s.size<1
  . have L:(s.size:Int)<1:=Qa
    have z:hT s.data.toList=false:=by unfold hT;rw[h.out];simp;omega
    rw[z];clear z h;go_enter func8,ntmps8;go_wp2;go_ret;exact⟨rfl,rfl⟩
  . have L:¬(s.size:Int)<1:=Qa
    by_cases R:12<s.size
    . have N:12<(s.size:Int):=Qa
      have z:hT s.data.toList=false:=by unfold hT;rw[h.out];simp;omega
      rw[z];clear z h;go_enter func8,ntmps8;go_wp2;go_ret;exact⟨rfl,rfl⟩
    . have N:¬12<(s.size:Int):=Qa
      go_enter func8,ntmps8;go_wp2;go_loop [3] (fun i=>∃k:Nat,k<=s.size/\i=.int .i64 k/\Hid (∀j,j<k->cY j ((s.data.toList.getD j 0).toNat:Int)=true))(fun i=>s.size-(intOf i).toNat);case atStart=>exact⟨0,k2 _,rfl,fun j F=>Qa⟩
      case round=>
        obtain⟨k,S,rfl,y⟩:=hrel;by_cases q:k<s.size
        . obtain⟨c,J⟩:∃c:UInt8,s[k]'q=c:=⟨_,rfl⟩;have p:Hid (s.data.toList.getD k 0=c):=by unfold Hid;rw[<-J,D1,h' (by rw[h.out];exact q)];simp;rfl
          have I:(0:Int)<=(c.toNat:Int):=Qa
          by_cases D:k=0
          . have G:((k:Int)==0)=true:=by simp[D]
            have u:=w0 D;clear D;go_wp2;all_goals first
              |(exfalso;have:=u.out;simp at*;omega)
              | (go_round;case rel=>exact⟨k+1,Qa,Qj,wF y p (wH _ _ (by have:=u.out;simp at*;omega))⟩
                 case measure=>simp[intOf];omega)|(go_ret;exact⟨fW (wG (k:=k) h q p (wI _ _ (by have:=u.out;simp at*;omega))).symm,rfl⟩)
          . have G:((k:Int)==0)=false:=by simp[D]
            go_wp2;all_goals first
              |(exfalso;simp at*;omega)
              | (go_round;case rel=>exact⟨k+1,Qa,Qj,wF y p (wH _ _ (by simp at*;omega))⟩
                 case measure=>simp[intOf];omega)|(go_ret;exact⟨fW (wG (k:=k) h q p (wI _ _ (by simp at*;omega))).symm,rfl⟩)
        . have H:k=s.size:=Qa
          subst H;have E:fY s.data.toList=true:=BF _ (fun j F=>y.out j (by rw[h.out]at F;exact F));have z:hT s.data.toList=true:=by unfold hT;rw[E,h.out];simp;omega
          go_wp2;go_ret;exact⟨rfl,rfl⟩
def fL(b a m:Int):Int:=Z6 [unl (ZY b 0 m&&ZY a 0 m) 2,unl (decide (b<=a)) 9]
end Go.Proofs
namespace Go.Proofs
open Go.RowKit
section
variable {P:aA} {ops:aG}
def bU(ops:aG):Bool:=(List.range ops.size).all fun i=>match ops[i]? with|none=>true|some o=>((o.looksAt ops).all fun s=>(List.range ops.size).all fun j=>match ops[j]? with|none=>true| some oj => oj.dst != some s || (decide (j < i) && o.after.any fun e => Region.binds .any e && e.on == j)) && ((List.range ops.size).all fun j=>match ops[j]? with|none=>true| some oj => j == i || o.dst.isNone || oj.dst != o.dst) && (o.after.all fun e=>!Region.binds .any e||decide (e.on<i))
structure SlotsOk (ops:aG):Prop where
 look:∀(i:Nat)(o:Oper)(s j:Nat)(oj:Oper),ops[i]?=some o->s∈o.looksAt ops->ops[j]?=some oj->oj.dst=some s->j<i/\∃e∈o.after,Region.binds .any e=true/\e.on=j
 dst:∀(i j:Nat)(o oj:Oper)(s:Nat),ops[i]?=some o->ops[j]?=some oj->o.dst=some s->oj.dst=some s->j=i
 after:∀(i:Nat)(o:Oper)(e:Edge),ops[i]?=some o->e∈o.after->Region.binds .any e=true->e.on<i
def D6{i:Nat} {o:Oper} (h:ops[i]?=some o):i<ops.size:=(bO.1 h).1
def wV(h:bU ops=true):SlotsOk ops:=by
 unfold bU at h;simp only[bP,w5]at h;refine⟨fun i o s j I a H u z=>?_,fun i j o I s a u z D=>?_,fun i o e a E y=>?_⟩;·have p:=h i (D6 a);simp only[a,aY,bP,w5]at p;have q:=p.1.1 s H j (D6 u);simp only[u,z,fA,aY,h6,bne_self_eq_false,nK,false_or]at q;obtain⟨F,G⟩:=q;obtain⟨e,E,y⟩:=Array.any_eq_true'.1 G;simp only[aY,cZ]at y;exact⟨F,e,E,y⟩
 .have p:=h i (D6 a);simp only[a,aY,bP,w5]at p;have q:=p.1.2 j (D6 u);simpa [u,z,D] using q
 .have p:=h i (D6 a);simp only[a,aY]at p;have q:=dS.1 p.2 e E;simpa [y] using q
def U4{a b:Act} (h:a.defers=b.defers)(j:∀s:Nat,a.tmps[s]?=b.tmps[s]?):a=b:=by obtain⟨t,d⟩:=a;obtain⟨p,q⟩:=b;dsimp only at h j;subst h;have:t=p:=dD j;subst this;rfl
def U5{a b:Act} {x:Operand} (h:∀t:Nat,x=.tmp t->a.tmps[t]?=b.tmps[t]?):a.eval x=b.eval x:=by cases x with|tmp t=>have:=h t rfl;simp[Act.eval,this]|_=>rfl
def CD{o:Oper} {a b:Act} (j:∀cs b,o.op≠.select cs b)(h:∀s∈o.looksAt ops,a.tmps[s]?=b.tmps[s]?):execOp a.eval o=execOp b.eval o:=execOp_congr o j fun x q=>U5 fun t p=>h t (by subst p;exact uC _ (List.mem_filterMap.2 ⟨.tmp t,by simpa using q,rfl⟩))
def CE{o:Oper} {a b:Act} (h:∀s∈o.looksAt ops,a.tmps[s]?=b.tmps[s]?):Region.wanted o (yielded ops a.tmps)=Region.wanted o (yielded ops b.tmps):=by unfold Region.wanted;cases p:o.guard with
 |none=>rfl|some gw=>
  obtain⟨g,j⟩:=gw;have u:yielded ops a.tmps g=yielded ops b.tmps g:=by unfold yielded;cases q:(ops[g]?).bind (·.dst)with
   |none=>rfl|some t=>have:=h t (by simp[Oper.looksAt,p,q]);simp[this]
  simp only[u]
def CF{C:cC} {o:Oper} {v:Value} {a b:Act} (j:∀cs b,o.op≠.select cs b)(h:∀s∈o.looksAt ops,a.tmps[s]?=b.tmps[s]?)(p:YieldsIn P ops C o v a):YieldsIn P ops C o v b:=p.of_same (CD j h).symm (CE h).symm
def oR{a:Act} {d:Option Tmp} {v:Value} {s:Nat} (h:d≠some s):(a.put d v).tmps[s]?=a.tmps[s]?:=by cases d with|none=>rfl|some d=>have j:d≠s:=fun e=>h (by rw[e]);simp[Act.put,cA j]
def oS{a:Act} {d:Option Tmp} {v:Value}:(a.put d v).tmps.size=a.tmps.size:=by cases d<;>simp[Act.put]
def rG{a:Act} {d:Option Tmp} {v:Value}:(a.put d v).defers=a.defers:=by cases d<;>rfl
def rH{a:Act} {d:Nat} {v:Value} (h:d<a.tmps.size):(a.put (some d) v).tmps[d]?=some v:=by simp[Act.put,h]
def CG{a:Act} {d:Nat} {v:Value} (h:¬d<a.tmps.size):(a.put (some d) v).tmps[d]?=none:=by simp[Act.put];omega
def JP(H:SlotsOk ops)(y:∀(j:Nat)(o:Oper) cs b,ops[j]?=some o->o.op≠.select cs b) {C:cC} {q:Act}:∀(l:bL)(k:Nat)(a:Act),(∀j,l[j]?=ops[k+j]?)->wpQuiet P ops C (fun F=>F=q) l a->(∀i o,k<=i->ops[i]?=some o->∃v,YieldsIn P ops C o v q/\∀d,o.dst=some d->d<q.tmps.size->q.tmps[d]?=some v)/\a.tmps.size=q.tmps.size/\a.defers=q.defers/\∀s,(∀j p,k<=j->ops[j]?=some p->p.dst≠some s)->a.tmps[s]?=q.tmps[s]?
 |[],k,a,hl,h=>by have X:a=q:=h;subst X;refine⟨fun i o c z=>?_,rfl,rfl,fun s _=>rfl⟩;have:=hl (i-k);rw[show k+(i-k)=i by omega,z]at this;simp at this|o::rest,k,a,hl,h=>by
  have u:ops[k]?=some o:=by simpa using (hl 0).symm
  have Z:qOp P ops C k (wpQuiet P ops C (fun F=>F=q) rest) a:=by unfold qOp;simp only[u];exact h
  obtain⟨v,e,Y⟩:=yieldsIn_of_qOp u Z;obtain⟨f,U,g,R⟩:=JP H y rest (k+1) (a.put o.dst v) (fun j=>by have:=hl (j+1);rw[p0]at this;rw[this];congr 1;omega) Y;have G:∀s∈o.looksAt ops,a.tmps[s]?=q.tmps[s]?:=fun s E=>by
   have S:∀j p,k<=j->ops[j]?=some p->p.dst≠some s:=fun j p L z D=>by have:=(H.look k o s j p u E z D).1;omega
   rw[<-R s (fun j p L=>S j p Qa),oR (S k o (sW _) u)]
  refine⟨fun i V c z=>?_,by rw[<-U,oS],by rw[<-g,rG],fun s E=>?_⟩
  .by_cases J:i=k;·subst J;obtain rfl:o=V:=R' (u.symm.trans z);refine⟨v,CF (y _ _ · · u) G e,fun d D N=>?_⟩;rw[<-R d (fun j p L O I=>by have:=H.dst i j o p d u O D I;omega),D];exact rH (by rw[<-oS (a:=a) (d:=o.dst) (v:=v),U];exact N)
   .exact f i V Qa z
  .rw[<-R s (fun j p L=>E j p Qa),oR (E k o (sW _) u)]
def uS(n:Nat)(h:bM):Nat:=((List.range n).filter fun j=>!h.getD j true).length
def JQ{α:Type} {p q:α->Bool}:∀(l:List α),(∀x,q x=true->p x=true)->(l.filter q).length<=(l.filter p).length
 |[],_=>sW _|x::l,h=>by
  have u:=JQ l h;simp only[cJ];by_cases j:q x=true;·rw[Zde j,Zde (h x j)];simpa using u
  .rw[q' j];split;·simp only[y'];omega
   .exact u
def JR{α:Type} {p q:α->Bool}:∀(l:List α),(∀x,q x=true->p x=true)->(∃x∈l,p x=true/\q x=false)->(l.filter q).length<(l.filter p).length
 |[],_,h=>by obtain⟨x,z,_⟩:=h;cases z|y::l,h,z=>by
  obtain⟨x,u,D,E⟩:=z;simp only[cJ];rcases ZBq.1 u with rfl|u;·rw[q' (by rw[E];decide),Zde D];have:=JQ l h;simp only[y'];omega
  .have F:=JR l h ⟨x,u,D,E⟩;by_cases j:q y=true;·rw[Zde j,Zde (h y j)];simpa using F
   .rw[q' j];split;·simp only[y'];omega
    .exact F
def JS{n i:Nat} {p:bM} (a:i<n)(h:p.getD i true=false):uS n (p.setIfInBounds i true)<uS n p:=by
 refine JR _ (fun j u=>?_) ⟨i,w5.2 a,by simp[h],?_⟩
 .by_cases q:i=j;·subst q;simp[h]
  .rw[R0 true q]at u;exact u
 .have:(p.setIfInBounds i true).getD i true=true:=by simp only[fG,bF];by_cases y:i<p.size<;>simp[y]
  rw[this];rfl
end
section
variable {P:aA} {ops:aG}
def x9(ops:aG)(h:bM)(a b:Act):Prop:=a.tmps.size=b.tmps.size/\a.defers=b.defers/\∀s:Nat,(∀(j:Nat)(p:Oper),ops[j]?=some p->p.dst=some s->h.getD j true=true)->a.tmps[s]?=b.tmps[s]?
def nH{p:bM} {j:Nat} (h:p.getD j false=true):p.getD j true=true:=by
 rcases D4 j p.size with q|q;·simp[q]at h |-;exact h
 .simp[dQ q]at h
def U6(H:SlotsOk ops) {p:bM} {a b:Act} (h:x9 ops p a b) {i:Nat} {o:Oper} (c:ops[i]?=some o)(G:i∈Region.ready .any ops p):∀s∈o.looksAt ops,a.tmps[s]?=b.tmps[s]?:=fun s I=>h.2.2 s fun j L F D=>by obtain⟨_,e,E,z,y⟩:=H.look i o s j L c I F D;obtain⟨_,J,u,q⟩:=fF.1 G;obtain rfl:o=J:=R' (c.symm.trans u);have:=q e E z;rw[y]at this;exact nH this
def JU(H:SlotsOk ops) {p:bM} {a b:Act} (h:x9 ops p a b) {i:Nat} {o:Oper} (c:ops[i]?=some o) {v:Value} (d:∀s,o.dst=some s->s<b.tmps.size->b.tmps[s]?=some v):x9 ops (p.setIfInBounds i true) (a.put o.dst v) b:=by
 refine⟨by rw[oS];exact h.1,by rw[rG];exact h.2.1,fun s F=>?_⟩;by_cases y:o.dst=some s
 .rw[y];by_cases q:s<b.tmps.size;·rw[rH (by rw[h.1];exact q),d s y q]
  .rw[CG (by rw[h.1];exact q),dQ Qa]
 .rw[oR y];refine h.2.2 s fun j E D u=>?_;have z:i≠j:=by rintro rfl;obtain rfl:o=E:=R' (c.symm.trans D);exact y u
  have:=F j E D u;rwa [R0 true z]at this
def above(u:World):World->Prop:=fun x=>QB u x
def Before(ops:aG)(w:World)(m k:Nat)(j:Act)(h:bM)(a:Act)(x:World):Prop:=h.getD m true=false/\h.getD k true=false/\x9 ops h a j/\QB w x
def U'{C:cC} {Q:bK} {i:Nat} {o:Oper} {v:Value} {a:Act} {x:World} {K:eD} (c:ops[i]?=some o)(y:YieldsIn P ops C o v a)(q:C x)(h:∀b,C b->K (a.put o.dst v) b):wpOp P ops Q i K a x:=wpOp_of_qOp (K:=fun p=>p=a.put o.dst v) q (fun p d j u=>by subst u;exact h d j) (y.qOp c rfl)
def wW(H:SlotsOk ops) {p:bM} (a:p.size=ops.size)(h:Region.ready .any ops p=[]):∀j,j<ops.size->p.getD j true=true:=by intro j;induction j using Nat.strongRecOn with|_ j ih=>intro u;cases F:p.getD j true with
  |true=>rfl|false=>exfalso;have:j∈Region.ready .any ops p:=fF.2 ⟨F,ops[j],e3 u,fun e E D=>by
    have y:=H.after j _ e (e3 u) E D;have q:=ih e.on y Qa;have z:e.on<p.size:=Qa
    simp[z]at q |-;exact q⟩;rw[h]at this;cases this
def VA{p:bM} {a b:Act} (h:x9 ops p a b)(c:∀j,j<ops.size->p.getD j true=true):a=b:=U4 h.2.1 fun s=>h.2.2 s fun j u q _=>c j (D6 q)
end
def VB(u:World):above u=fun a=>∃x:Grew u,a=x.val:=by funext a;exact propext ⟨fun h=>⟨⟨a,h⟩,rfl⟩,fun⟨x,j⟩=>by subst j;exact x.ok⟩
def GJ{w x:World} {a:Addr} (h:QB w x)(hB:w.heap.size<=a.block)(u:Value):QB w (x.setCell a u):=h.setCell hB u
section
variable {P:aA} {ops:aG}
def rI{h:bM} (j:Nat):(h.setIfInBounds j true).getD j true=true:=by simp only[fG,bF];by_cases p:j<h.size<;>simp[p]
end
section
variable {P:aA} {ops:aG}
def yieldsC(v:Value)(o:Oper):Oper:={o with op:=.move (.const v)}
end
section
variable {P:aA} {ops:aG}
structure Gh where
 b:Nat
 a1:Option Addr
 a2:Option Addr
 a3:Option Addr
 c1:Nat
 c2:Nat
 c3:Nat
def Gh.zero:Gh:=⟨0,none,none,none,0,0,0⟩
abbrev _root_.bT:=Nat->Gh
def upd(g:bT)(j:Nat)(h:Gh):Nat->Gh:=fun k=>if k=j then h else g k
def cV(L:bR)(j:Nat):Nat->Bool:=fun k=>k==j||L k
abbrev _root_.eR:=Nat->Gh->Value
def mixL(sp:y0)(h:eR)(g:bT):Nat->List Oper->List Oper|_,[]=>[]|i,o::l=>(if sp.contains i then yieldsC (h i (g i)) o else o)::mixL sp h g (i+1) l
def S8(a:y0) (h:eR) (g:bT):∀(l:bL) (i j:Nat),(mixL a h g i l)[j]?=(l[j]?).map fun o=>if a.contains (i+j)then yieldsC (h (i+j) (g (i+j))) o else o|[],i,j=>by simp[mixL]|o::l,i,0=>by simp[mixL]|o::l,i,j+1=>by simp only[mixL,p0];rw[S8 a h g l (i+1) j];congr 2;funext o;rw[show i+1+j=i+(j+1)by omega]
def cF(ops:aG)(j:Nat):Nat->List Oper->List Nat->List Nat|_,[],acc=>acc|i,o::l,acc=>cF ops j (i+1) l (if i==j||(o.looksAt ops).any acc.contains then (match o.dst with|some d=>d::acc|none=>acc)else acc)
def JV{j:Nat} {G:hN} (y:∀(i:Nat)(o:Oper)(d:Nat),ops[i]?=some o->o.dst=some d->(i=j∨∃s∈o.looksAt ops,G s)->G d):∀(l:bL)(i:Nat)(a:y0),(∀k,l[k]?=ops[i+k]?)->(∀d∈a,G d)->∀d∈cF ops j i l a,G d
 |[],i,a,_,ha,d,hd=>ha d hd|o::l,i,a,hl,ha,d,hd=>by
  unfold cF at hd;refine JV y l (i+1) _ (fun k=>by have:=hl (k+1);rw[p0]at this;rw[this];congr 1;omega) ?_ d hd;intro u p;split at p;·rename_i z;cases q:o.dst with|none=>rw[q]at p;exact ha u p|some e=>
    rw[q]at p;rcases ZBq.1 p with rfl|F
    .refine y i o u (by simpa using (hl 0).symm) q ?_;simp only[fA,cZ,h0,List.contains_iff_mem]at z;rcases z with h|⟨s,D,E⟩;·exact .inl h
     .exact .inr ⟨s,D,ha s E⟩
    .exact ha u F
  .exact ha u p
def cD(cs:y0):Nat->List Value->List Value|_,[]=>[]|i,v::l=>(if cs.contains i then undef else v)::cD cs (i+1) l
def JW(cs:y0):∀(l:hD)(i s:Nat),(cD cs i l)[s]?=(l[s]?).map fun v=>if cs.contains (i+s)then undef else v|[],i,s=>by simp[cD]|v::l,i,0=>by simp[cD]|v::l,i,s+1=>by simp only[cD,p0];rw[JW cs l (i+1) s];congr 2;funext v;rw[show i+1+s=i+(s+1)by omega]
def VC{cs:y0} {t j:bJ} (h:cD cs 0 t.toList=cD cs 0 j.toList) {s:Nat} (a:s∉cs):t[s]?=j[s]?:=by
 have:=w6 (fun l=>l[s]?) h;simp only[JW,m']at this;have p:cs.contains s=false:=by simpa using a
 rw[p]at this;simpa using this
def cE(P:aA)(K:hS):Result Next->Prop|.ok (.value v) x=>K v x|.ok .skip x=>K undef x|.ok (.enter f args) x=>Calls P f args x fun e a=>∃v,e=.returned v/\K v a|_=>False
def VD{o:Oper} {a:Act} {x:World} {K:hS} {N:eD} {Q:bK} (h:cE P K ((execOp a.eval o).run P x))(b:∀v c,K v c->N (a.put o.dst v) c):o.wp P a x N Q:=by unfold Oper.wp;cases j:(execOp a.eval o).run P x with
 |ok n c=>rw[j]at h;cases n with
  |value v=>exact b _ _ h|skip=>exact b _ _ h|enter f args=>rw[Oper.upon_enter];refine Calls.mono h ?_;rintro e q ⟨v,rfl,p⟩;exact b _ _ p|_=>exact h.elim
 |_=>rw[j]at h;exact h.elim
def G1{K:hS} {r:Result Next} {v:Value} {x:World} (j:r=.ok (.value v) x)(h:K v x):cE P K r:=by subst j;exact h
def fU{K:hS} {r:Result Next} {x:World} (j:r=.ok .skip x)(h:K undef x):cE P K r:=by subst j;exact h
def zA{K:hS} {r:Result Next} {x:World} {f:FuncId} {d:bJ} (j:r=.ok (.enter f d) x)(h:Calls P f d x fun e g=>∃v,e=.returned v/\K v g):cE P K r:=by subst j;exact h
def spB(ops:aG)(a:y0):Bool:=a.all fun j=>match ops[j]? with|some o=>o.guard.isNone|none=>false
def G8(ops:aG)(C:cC)(J:(Nat->Bool)->(Nat->Gh)->World->Prop)(p:(Nat->Gh)->Act)(h:bM)(a:Act)(x:World):Prop:=C x/\(∀(i:Nat)(o:Oper),ops[i]?=some o->h.getD i true=true->∀e∈o.after,Region.binds .any e=true->h.getD e.on true=true)/\∃g,x9 ops h a (p g)/\J (fun j=>h.getD j true) g x
def VE(h:bM)(i:Nat):(fun j=>(h.setIfInBounds i true).getD j true)=cV (fun j=>h.getD j true) i:=funext fun j=>by
 unfold cV;by_cases p:i=j;·subst p;rw[rI,BEq.rfl,k7]
 .rw[R0 true p];have:(j==i)=false:=by simpa using fun e=>p e.symm
  rw[this,p']
end
structure OnlyB (b:Nat)(x x':World):Prop where
 below:∀n,n<=b->Below n x x'
 other:∀k,k≠b->x'.heap[k]?=x.heap[k]?
def OnlyB.refl(b:Nat)(x:World):OnlyB b x x:=⟨fun n _=>l3 n x,fun _ _=>rfl⟩
def OnlyB.set{b:Nat} {x d:World} (h:OnlyB b x d)(o:Nat)(u:Value):OnlyB b x (d.setCell ⟨b,o,none⟩ u):=⟨fun n p=>(h.below n p).setCell p u,fun k j=>(gS d ⟨b,o,none⟩ u k j).trans (h.other k j)⟩
def OnlyB.keep{b:Nat} {x d:World} (h:OnlyB b x d) {k:Nat} {o:Obj} (hk:k≠b)(f:x.heap[k]?=some o):d.heap[k]?=some o:=(h.other k hk).trans f
def ZM{L:bR} {j k:Nat} (h:k≠j):cV L j k=L k:=by
 unfold cV;have:(k==j)=false:=by simpa using h
 rw[this,p']
def dN{L:bR} {j:Nat}:cV L j j=true:=by simp[cV]
def upd_ne{g:bT} {j k:Nat} {h:Gh} (hk:k≠j):upd g j h k=g k:=by unfold upd;rw[q' hk]
def ZX{g:bT} {j:Nat} {h:Gh}:upd g j h j=h:=by unfold upd;rw[Zde rfl]
section
variable {P:aA}
end
def R4{P:aA} {f:aE} {o:Oper} {t d:aN} {p q:Operand} {b:Nat} {v0 v1 u0 u1:Value} {x:World} (y:o.op=.store t p q)(h0:v0.oneCell'=true)(u:v1.oneCell'=true)(h:Sem.run P (sizeOf t) x=.ok 2 x)(a:f p=.pointer (some b))(hq:f q=.agg #[v0,v1])(c:x.heap[b]?=some (.cells #[u0,u1] d)):(execOp f o).run P x=.ok .skip ((x.setCell ⟨b,0,none⟩ v0).setCell ⟨b,1,none⟩ v1):=by have j:=bk2 c;unfold execOp;rw[y];simp[go_sem,a,hq,j,h,mB _ _ _ v0 _ h0,mB _ _ _ v1 _ u]
def s3{P:aA} {f:aE} {o:Oper} {t d:aN} {p q:Operand} {b:Nat} {v0 v1 v2 u0 u1 u2:Value} {x:World} (z:o.op=.store t p q)(h0:v0.oneCell'=true)(u:v1.oneCell'=true)(y:v2.oneCell'=true)(h:Sem.run P (sizeOf t) x=.ok 3 x)(hp:f p=.pointer (some b))(hq:f q=.agg #[v0,v1,v2])(a:x.heap[b]?=some (.cells #[u0,u1,u2] d)):(execOp f o).run P x=.ok .skip (((x.setCell ⟨b,0,none⟩ v0).setCell ⟨b,1,none⟩ v1).setCell ⟨b,2,none⟩ v2):=by have j:=bk3 a;unfold execOp;rw[z];simp[go_sem,hp,hq,j,h,mB _ _ _ v0 _ h0,mB _ _ _ v1 _ u,mB _ _ _ v2 _ y]
section
variable {P:aA}
end
def VF{w x c:World} {a:hB} (h:QB w x)(j:x.grownBy c a)(p:∀b,a=some b->w.heap.size<=b):QB w c:=h.grown j h.size p
section
variable {P:aA}
def VG(v:Value) (c:v.oneCell'=true) (x:World) (b o:Nat) (u:Value) (h:x.cell? ⟨b,o,none⟩=some u) (a:x.frozen? ⟨b,o,none⟩=false):(store ⟨b,o,none⟩ v).run P x=.ok () (x.setCell ⟨b,o,none⟩ v):=by cases v<;>first|(simp[Value.oneCell']at c;done)|simp[store,Sem.run,h,a]
def oT(b:Nat)(T:aN):∀(vs:hD)(i:Nat)(cs:hD)(x:World),x.heap[b]?=some (.cells cs.toArray T)->i+vs.length<=cs.length->(∀u∈vs,u.oneCell'=true)->∃a,(storeCells ⟨b,0,none⟩ vs i).run P x=.ok () a/\a.heap[b]?=some (.cells (cs.take i++vs++cs.drop (i+vs.length)).toArray T (0,0))/\x.grownBy a (some b)/\a.heap.size=x.heap.size
 |[],i,cs,x,hx,_,_=>⟨x,by simp[storeCells,Sem.run,pure],by simpa using hx,⟨rfl,rfl,rfl,sW _,fun _ _ _=>rfl⟩,rfl⟩|v::vs,i,cs,x,hx,hl,h1=>by
  simp only[y']at hl;have y:x.cell? ⟨b,i,none⟩=some (cs[i]'Qa):=by unfold World.cell?;simp only[hx];simp[h' (show i<cs.length by omega)]
  have z:x.frozen? ⟨b,i,none⟩=false:=by unfold World.frozen?;simp only[hx];simp
  have D:=VG (P:=P) v (h1 v Qd) x b i _ y z;have j:(x.setCell ⟨b,i,none⟩ v).heap[b]?=some (.cells (cs.set i v).toArray T (0,0)):=ZH hx v Qd;obtain⟨a,F,G,H,I⟩:=oT b T vs (i+1) (cs.set i v) _ j Qk fun u E=>h1 u (by simp[E]);refine⟨a,?_,?_,?_,by rw[I];simp⟩
  .unfold storeCells;have e:(⟨b,0,none⟩:Addr).add i=⟨b,i,none⟩:=by unfold Addr.add;split<;>simp_all
   rw[e];simp only[aD,D,aI];exact F
  .rw[G];congr 2;apply w6;have p:(cs.set i v).take (i+1)=cs.take i++[v]:=by rw[w9,List.getElem?_set_self Qa,oQ];rw[List.set_eq_of_length_le (by simp[Nat.min_le_left])];rfl
   have q:(cs.set i v).drop (i+1+vs.length)=cs.drop (i+1+vs.length):=by rw[List.drop_set_of_lt Qa]
   rw[p,q];simp only[y',b7,hP,e9];congr 4;omega
  .exact World.grownBy.trans (b:=x.setCell ⟨b,i,none⟩ v) ⟨rfl,rfl,rfl,Qd,fun k J h=>gS x ⟨b,i,none⟩ v k fun e=>h (by rw[e])⟩ H
def wX(b:Nat)(T:aN)(cs:hD)(x:World)(c:x.heap[b]?=some (.cells cs.toArray T)):∀(n i:Nat)(a:bJ),i+n<=cs.length->(loadCellsFrom ⟨b,0,none⟩ i n a).run P x=.ok (a++((cs.drop i).take n).toArray) x
 |0,i,a,_=>by simp[loadCellsFrom,Sem.run,pure]|n+1,i,a,h=>by
  have j:x.cell? ⟨b,i,none⟩=some (cs[i]'Qa):=by unfold World.cell?;simp only[c];simp[h' (show i<cs.length by omega)]
  unfold loadCellsFrom;have e:(⟨b,0,none⟩:Addr).add i=⟨b,i,none⟩:=by unfold Addr.add;split<;>simp_all
  rw[e];have p:(load ⟨b,i,none⟩).run P x=.ok (cs[i]'Qa) x:=by simp[load,Sem.run,j]
  simp only[aD,p,aI];rw[wX b T cs x c n (i+1) _ Qa];rw[kJ (show i<cs.length by omega),sT];simp
variable {ops:aG} {rest:bL} {o:Oper} {a:Act} {Q:bK}
def P0{w:World} (j:o.guard=none)(p q:Operand)(t:aN)(G:o.op=.store t p q)(b:Nat)(d cs:hD)(T:aN)(f:a.eval p=.pointer (some b))(hq:a.eval q=.agg d.toArray)(y:(sizeOf t).run P w=.ok d.length w)(hb:w.heap[b]?=some (.cells cs.toArray T))(F:cs.length=d.length)(D:∀u∈d,u.oneCell'=true)(h:∀w',w'.heap[b]?=some (.cells d.toArray T)->w.grownBy w' (some b)->w'.heap.size=w.heap.size->wpList P ops Q rest (a.put o.dst undef) w'):wpList P ops Q (o::rest) a w:=by
 obtain⟨e,H,I,J,L⟩:=oT (P:=P) b T d 0 cs w hb Qa D;refine D8 j fun K E=>?_;unfold Oper.wp execOp;have z:(storeVar t ⟨b,0,none⟩ (.agg d.toArray)).run P w=.ok () e:=by unfold storeVar;simp only[aD,y,aI,Value.cells,hM,ne_eq,jK,ZyI];exact H
 simp only[G,Instr.storeAt,Instr.sureAddr,f,hq,aD,aP,aI,z];refine E _ _ (h e ?_ J L);rw[I];congr 2;apply w6;simp[F]
def x3{w:World} {t:aN} {b:Nat} {cs:hD} {T:aN} (h:(isAgg t).run P w=.ok true w)(j:(sizeOf t).run P w=.ok cs.length w)(hb:w.heap[b]?=some (.cells cs.toArray T)):(loadVar t ⟨b,0,none⟩).run P w=.ok (.agg cs.toArray) w:=by unfold loadVar loadCells;simp only[aD,h,j,aI,ZyJ];rw[wX b T cs w hb cs.length 0 #[] Qa];simp[Sem.run,pure]
def mP{w:World} (q:o.guard=none)(p:Operand)(t:aN)(D:o.op=.load t p)(b:Nat)(cs:hD)(T:aN)(c:a.eval p=.pointer (some b))(j:(isAgg t).run P w=.ok true w)(u:(sizeOf t).run P w=.ok cs.length w)(hb:w.heap[b]?=some (.cells cs.toArray T))(h:wpList P ops Q rest (a.put o.dst (.agg cs.toArray)) w):wpList P ops Q (o::rest) a w:=by
 refine D8 q fun K z=>?_;unfold Oper.wp execOp;have y:(loadVar t ⟨b,0,none⟩).run P w=.ok (.agg cs.toArray) w:=by unfold loadVar loadCells;simp only[aD,j,u,aI,ZyJ];rw[wX b T cs w hb cs.length 0 #[] Qa];simp[Sem.run,pure]
 simp only[D,Instr.loadAt,Instr.sureAddr,c,aD,aP,aI,y];exact z _ _ h
def rJ(b:Addr)(w:World):(asAddr (.pointer (some b))).run P w=.ok b w:=rfl
def fT{fn:Func} {p:Tmp} {ty:aN} (h:fn.results=#[.cell p ty]) {j:bJ} {w:World} {ad:Addr} {v:Value} (u:j.getD p undef=.pointer (some ad))(q:(loadVar ty ad).run P w=.ok v w):(results fn j).run P w=.ok v w:=by unfold results;rw[h];simp only[qV,iG,iH,u,aD,aP,rJ,aI,q,bind_assoc,pure_bind,qW];rfl
def b4{fn:Func} {p u:Tmp} {d:aN} (h:fn.results=#[.cell p d,.tmp u]) {j:bJ} {w:World} {ad:Addr} {v:Value} (y:j.getD p undef=.pointer (some ad))(q:(loadVar d ad).run P w=.ok v w):(results fn j).run P w=.ok (.tuple #[v,j.getD u undef]) w:=by unfold results;rw[h];simp only[qV,iG,iH,y,aD,aP,rJ,aI,q,bind_assoc,pure_bind,qW];rfl
end
open Tryz
def dA(n m:Int):Bool:=ZY n (-m) m
def rK(n m:Int)(w:World)(c:m.natAbs<=9000000000000000000):Calls prog 58 #[n,m] w fun e b=>e=.returned (dA n m)/\w=b:=by have h:IntKind.i64.wrap (-m)=-m:=B3 _ Qa;go_enter func58,ntmps58;go_wp2_with (go_at_call 42;refine(eL _ _ _ _).mono ?_;rintro e b ⟨rfl,rfl⟩);go_ret;exact⟨rfl,rfl⟩
def wY(n b:Int)(w:World)(a:0<b)(y:n.natAbs<=9000000000000000000):Calls prog 25 #[n,b] w fun e c=>e=.returned (.int .i64 (n / b))/\w=c:=by
 have j:¬b=0:=Qa
 have p:(b==0)=false:=by simpa using j
 have z:(n.tdiv b).natAbs<=n.natAbs:=by rw[Int.natAbs_tdiv];exact kI _ _
 have q:IntKind.i64.wrap (n.tdiv b)=n.tdiv b:=B3 _ Qa;by_cases h:n.tmod b<0;·have u:IntKind.i64.wrap (n.tdiv b-1)=n.tdiv b-1:=B3 _ Qa;go_enter func25,ntmps25;go_wp2;go_ret;exact⟨aU (BC n b a h),rfl⟩
 .go_enter func25,ntmps25;go_wp2;go_ret;exact⟨aU (BE n b a Qa),rfl⟩
def lowG(n b:Int):Int:=(gcdL 0 [n,b]:Int)
def eZ(n b:Int)(a:0<b):0<lowG n b/\lowG n b∣n/\lowG n b∣b:=by have j:=s4 (l:=[n,b]) (g:=0) b Qd Qa;have h:=(D5 [n,b] 0).2;exact⟨by unfold lowG;omega,h n Qd,h b Qd⟩
def CH(n b:Int)(w:World)(a:0<b)(Z:n.natAbs<=1000000000000000000)(y:b.natAbs<=1000000000000000000):Calls prog 49 #[n,b] w (Qt w (.agg #[.int .i64 (n / lowG n b),.int .i64 (b / lowG n b)])):=by
 obtain⟨u,N,O⟩:=eZ n b a;have H:IntKind.i64.wrap (n.tdiv (lowG n b))=n / lowG n b:=R7 u N Z Qc;have I:IntKind.i64.wrap (b.tdiv (lowG n b))=b / lowG n b:=R7 u O y Qc;have S:=w0 (by have R:=(ZN.new (T:=3) (w.alloc (.cells #[(0:Int),(0:Int)] 52)) [n,b]).at';simp only[hJ]at R;exact rB (some ⟨w.heap.size+1,0,none⟩) [n,b] 2 ((w.alloc (.cells #[(0:Int),(0:Int)] 52)).alloc (.cells #[n,b] 3)) R Qd (by intro x U;simp only[ZBq,ZBH,ZyH]at U;rcases U with rfl|rfl<;>omega):Calls prog 76 #[.slice (some ⟨w.heap.size+1,0,none⟩) 2 2] ((w.alloc (.cells #[(0:Int),(0:Int)] 52)).alloc (.cells #[n,b] 3)) fun e c=>e=.returned (gcdL 0 [n,b]:Nat)/\Below ((w.alloc (.cells #[(0:Int),(0:Int)] 52)).alloc (.cells #[n,b] 3)).heap.size ((w.alloc (.cells #[(0:Int),(0:Int)] 52)).alloc (.cells #[n,b] 3)) c);obtain⟨g,D⟩:=Qu (lowG n b);have q:((gcdL 0 [n,b]:Nat):Int)=g:=D;rw[q]at S;rw[D]at u H I |-;have F:¬g=0:=Qa
 have Y:(g==0)=false:=by simpa using F
 clear D q N O;go_enter func49,ntmps49;go_wp2_with (go_at_call 76;refine S.out.mono ?_;rintro e d ⟨rfl,h⟩);have V:=Zx h (Qs:((w.alloc (.cells #[(0:Int),(0:Int)] 52)).alloc (.cells #[n,b] 3)).heap[w.heap.size]?=some (.cells #[(0:Int),(0:Int)] 52));have X:QB w d:=via Qi h;clear h;refine B9 w 7 Qb Qb Qi ?_;intro E z;simp only[sT,j0,r4,e5];repeat (go_big_quiet_step (fail))
 refine ZyG ?_;intro i j J G;clear E z;have L:=Zx j V;have f:=bk2 L;go_wp2;refine r3 (v:=.agg #[.int .i64 (n / g),.int .i64 (b / g)]) ?_ rfl ⟨rfl,?_⟩;·exact fT (p:=4) (ad:=⟨w.heap.size,0,none⟩) rfl Qe (x3 (T:=52) (cs:=[.int .i64 (n / g),.int .i64 (b / g)]) Qb Qb (ZH (ZH L _ rfl) _ rfl))
 .go_grown
def VH(k a n d v:Int)(w:World)(E:n.natAbs<=1000000000000000)(q:d.natAbs<=1000000000000000)(b:v.natAbs<=1000):Calls prog 45 #[.agg #[k,a],.agg #[n,d],v] w (Qt w (.bool (if k=1 then decide (n*1000<v*d)else decide (n<v*d)))):=by
 have p:=g' b q;obtain⟨y,h⟩:=Qu (v*d);rw[h]at p;have z:IntKind.i64.wrap (v*d)=y:=by rw[h];exact B3 _ Qa
 have D:IntKind.i64.wrap (n*1000)=n*1000:=B3 _ Qa;rw[h];clear h p;by_cases j:k=1;·subst j;go_enter func45,ntmps45;go_wp2;go_ret;exact⟨fW Qd,Qi⟩
 .have u:(k==1)=false:=by simpa using j
  go_enter func45,ntmps45;go_wp2;go_ret;exact⟨fW (by simp[j]),Qi⟩
def hU(k a:Int):Int:=Z6 [unl (ZY k 0 1) 15,unl (ZY a 0 400) 2]
def rL(k b:Int)(w:World):Calls prog 41 #[.agg #[k,b]] w (Qt w (hU k b)):=by
 unfold hU;obtain⟨L,G⟩:=Qu (ZY k 0 1);obtain⟨N,H⟩:=Qu (ZY b 0 400);have j:=w0 fun W=>eL k 0 1 W;have p:=w0 fun W=>eL b 0 400 W;rw[G]at j |-;rw[H]at p |-;clear G H;go_enter func41,ntmps41;go_wp2;refine k4 ?_;intro I h;have q:QB w I:=by rw[h];go_grown
 have J:I.heap[w.heap.size]?=some (.cells #[k,b] 27):=by rw[h];exact Qs
 have D:=bk2 J;clear h;refine B9 w 8 Qb Qb q ?_;intro z y;simp only[sT,j0,r4,e5];repeat (go_big_quiet_step (first
  |(go_at_call 42;first|with_reducible exact Zd (j.out _)|with_reducible exact Zd (p.out _))|(go_at_call 40;with_reducible exact Zd (c9 _ _ _))))
 refine ZyG ?_;intro O u F E;clear z y;go_wp2_with (go_at_call 38;refine(iB _ _ _).mono ?_;rintro e c ⟨rfl,rfl⟩);go_ret;exact⟨rfl,Qi⟩
abbrev _root_.z1:=List Pa
def VI(A:i')(l:z1)(c:Nat)(B:Nat)(f:Pa->Bool)(w:World)(d:l.length<=1000000)(H:At 5 Pa.cs w A l)(Y:∀y∈l,∀W,QB w W->Calls prog 94 (#[.agg #[.string y.nm,y.a0,y.a1,y.c0,y.c1]]++#[.pointer (some B)]) W (Qt W (f y))):Calls prog 111 #[.slice A l.length c,.func (.func 94) #[] #[.pointer (some B)]] w fun e m=>(∃r:Int,e=.returned r/\decide (0<=r)=l.any f)/\QB w m:=by
 have z:=w0 Y;have I:=w0 H;obtain⟨n,X⟩:=Qu l.length;have L:=w0 X;rw[X]at d |-;clear H Y X;go_enter func111,ntmps111;go_wp2_with fail;go_loopw [8] (fun i wr=>∃k:Nat,k<=n/\i=.int .i64 k/\Hid (((l.take k).any f)=false)/\QB w wr)(fun i _=>n-(intOf i).toNat);case atStart=>exact⟨0,k2 _,rfl,rfl,l3 _ _⟩
 case round=>
  obtain⟨k,x,rfl,u,j⟩:=hrel;by_cases V:k<n
  .obtain⟨y,O⟩:∃y,l[k]?=some y:=⟨_,h' (by rw[L.out];exact V)⟩;obtain⟨b,o,rfl,Z,F⟩:=I.out.below j k y O;have D:=w0 fun W J=>z.out y (k3 O) W J;obtain⟨q,R⟩:=Qu (f y);have E:Hid (((l.take (k+1)).any f)=q):=by obtain⟨S,a⟩:=p1.1 O;unfold Hid;rw[F0 S,E8,a,u.out];simpa using R
   have G:Hid (q=true->(l.any f)=true):=fun h=>by rw[h0];exact⟨y,k3 O,by rw[R,h]⟩
   rw[R]at D;(have t:=F 0 _ rfl;have C:=F 1 _ rfl;have K:=F 2 _ rfl;have M:=F 3 _ rfl;have P:=F 4 _ rfl;simp only[w7]at t);have v:(k:Int)<(n:Int):=Qa
   clear F O R u z;cases q
   .go_wp2_with (go_at_call 94;refine(D.out _ j).mono ?_;rintro e s ⟨rfl,J⟩;have j:=via j J);go_roundw;case rel=>exact⟨k+1,Qa,Qj,E,j⟩
    case measure=>simp[intOf];omega
   .have g:=G.out rfl;go_wp2_with (go_at_call 94;refine(D.out _ j).mono ?_;rintro e s ⟨rfl,J⟩;have j:=via j J);go_ret;exact⟨⟨k,rfl,by rw[g];simp⟩,j⟩
  .have U:k=n:=Qa
   subst U;have p:=u.out;rw[e0 (by rw[L.out];exact sW _)]at p;have N:=w0 p;clear u p z;go_wp2;go_ret;exact⟨⟨-1,rfl,by rw[N.out];decide⟩,j⟩
def VJ(A:i')(l:z1)(c:Nat)(B:Nat)(f:Pa->Bool)(w:World)(z:l.length<=1000000)(h:At 5 Pa.cs w A l)(j:∀y∈l,∀W,QB w W->Calls prog 94 (#[.agg #[.string y.nm,y.a0,y.a1,y.c0,y.c1]]++#[.pointer (some B)]) W (Qt W (f y))):Calls prog 93 #[.slice A l.length c,.func (.func 94) #[] #[.pointer (some B)]] w (Qt w (l.any f)):=by have p:=VI A l c B f w z h j;generalize (l.any f)=q at*;generalize l.length=n at*;clear h j;go_enter func93,ntmps93;go_wp2_with (go_at_call 111;refine p.mono ?_;rintro e E ⟨⟨r,rfl,D⟩,u⟩);go_ret;exact⟨rfl,u⟩
def VK(A:i')(l:e6)(c:Nat)(B:Nat)(f:En->Bool)(w:World)(d:l.length<=1000000)(G:At 3 En.cs w A l)(Y:∀y∈l,∀W,QB w W->Calls prog 96 (#[.agg #[.string y.nm,.slice y.A y.co.length y.c,y.mo]]++#[.pointer (some B)]) W (Qt W (f y))):Calls prog 112 #[.slice A l.length c,.func (.func 96) #[] #[.pointer (some B)]] w fun e m=>(∃r:Int,e=.returned r/\decide (0<=r)=l.any f)/\QB w m:=by
 have z:=w0 Y;have H:=w0 G;obtain⟨n,X⟩:=Qu l.length;have J:=w0 X;rw[X]at d |-;clear G Y X;go_enter func112,ntmps112;go_wp2_with fail;go_loopw [8] (fun i wr=>∃k:Nat,k<=n/\i=.int .i64 k/\Hid (((l.take k).any f)=false)/\QB w wr)(fun i _=>n-(intOf i).toNat);case atStart=>exact⟨0,k2 _,rfl,rfl,l3 _ _⟩
 case round=>
  obtain⟨k,x,rfl,u,j⟩:=hrel;by_cases V:k<n
  .obtain⟨y,N⟩:∃y,l[k]?=some y:=⟨_,h' (by rw[J.out];exact V)⟩;obtain⟨b,o,rfl,Z,O⟩:=H.out.below j k y N;have D:=w0 fun W I=>z.out y (k3 N) W I;obtain⟨q,R⟩:=Qu (f y);have E:Hid (((l.take (k+1)).any f)=q):=by obtain⟨S,a⟩:=p1.1 N;unfold Hid;rw[F0 S,E8,a,u.out];simpa using R
   have F:Hid (q=true->(l.any f)=true):=fun h=>by rw[h0];exact⟨y,k3 N,by rw[R,h]⟩
   rw[R]at D;(have t:=O 0 _ rfl;have C:=O 1 _ rfl;have K:=O 2 _ rfl;simp only[w7]at t);have v:(k:Int)<(n:Int):=Qa
   clear O N R u z;cases q
   .go_wp2_with (go_at_call 96;refine(D.out _ j).mono ?_;rintro e s ⟨rfl,I⟩;have j:=via j I);go_roundw;case rel=>exact⟨k+1,Qa,Qj,E,j⟩
    case measure=>simp[intOf];omega
   .have g:=F.out rfl;go_wp2_with (go_at_call 96;refine(D.out _ j).mono ?_;rintro e s ⟨rfl,I⟩;have j:=via j I);go_ret;exact⟨⟨k,rfl,by rw[g];simp⟩,j⟩
  .have U:k=n:=Qa
   subst U;have p:=u.out;rw[e0 (by rw[J.out];exact sW _)]at p;have L:=w0 p;clear u p z;go_wp2;go_ret;exact⟨⟨-1,rfl,by rw[L.out];decide⟩,j⟩
def VL(A:i')(l:e6)(c:Nat)(B:Nat)(f:En->Bool)(w:World)(z:l.length<=1000000)(h:At 3 En.cs w A l)(j:∀y∈l,∀W,QB w W->Calls prog 96 (#[.agg #[.string y.nm,.slice y.A y.co.length y.c,y.mo]]++#[.pointer (some B)]) W (Qt W (f y))):Calls prog 95 #[.slice A l.length c,.func (.func 96) #[] #[.pointer (some B)]] w (Qt w (l.any f)):=by have p:=VK A l c B f w z h j;generalize (l.any f)=q at*;generalize l.length=n at*;clear h j;go_enter func95,ntmps95;go_wp2_with (go_at_call 112;refine p.mono ?_;rintro e E ⟨⟨r,rfl,D⟩,u⟩);go_ret;exact⟨rfl,u⟩
def VM(A:i')(l:L')(c:Nat)  (f:Int->Bool)(w:World)(d:l.length<=1000000)(G:At 1 Zc w A l)(X:∀y∈l,∀W,QB w W->Calls prog 97 (#[.int .i64 y]++#[]) W (Qt W (f y))):Calls prog 98 #[.slice A l.length c,.func (.func 97) #[] #[]] w fun e m=>(∃r:Int,e=.returned r/\decide (0<=r)=l.any f)/\QB w m:=by
 have z:=w0 X;have H:=w0 G;obtain⟨n,V⟩:=Qu l.length;have J:=w0 V;rw[V]at d |-;clear G X V;go_enter func98,ntmps98;go_wp2_with fail;go_loopw [8] (fun i wr=>∃k:Nat,k<=n/\i=.int .i64 k/\Hid (((l.take k).any f)=false)/\QB w wr)(fun i _=>n-(intOf i).toNat);case atStart=>exact⟨0,k2 _,rfl,rfl,l3 _ _⟩
 case round=>
  obtain⟨k,x,rfl,u,j⟩:=hrel;by_cases U:k<n
  .obtain⟨y,N⟩:∃y,l[k]?=some y:=⟨_,h' (by rw[J.out];exact U)⟩;obtain⟨b,o,rfl,Z,Y⟩:=H.out.below j k y N;have D:=w0 fun W I=>z.out y (k3 N) W I;obtain⟨q,O⟩:=Qu (f y);have E:Hid (((l.take (k+1)).any f)=q):=by obtain⟨R,a⟩:=p1.1 N;unfold Hid;rw[F0 R,E8,a,u.out];simpa using O
   have F:Hid (q=true->(l.any f)=true):=fun h=>by rw[h0];exact⟨y,k3 N,by rw[O,h]⟩
   rw[O]at D;(have t:=Y 0 _ rfl;simp only[w7,w8]at t);have v:(k:Int)<(n:Int):=Qa
   clear Y N O u z;cases q
   .go_wp2_with (go_at_call 97;refine(D.out _ j).mono ?_;rintro e s ⟨rfl,I⟩;have j:=via j I);go_roundw;case rel=>exact⟨k+1,Qa,Qj,E,j⟩
    case measure=>simp[intOf];omega
   .have g:=F.out rfl;go_wp2_with (go_at_call 97;refine(D.out _ j).mono ?_;rintro e s ⟨rfl,I⟩;have j:=via j I);go_ret;exact⟨⟨k,rfl,by rw[g];simp⟩,j⟩
  .have S:k=n:=Qa
   subst S;have p:=u.out;rw[e0 (by rw[J.out];exact sW _)]at p;have L:=w0 p;clear u p z;go_wp2;go_ret;exact⟨⟨-1,rfl,by rw[L.out];decide⟩,j⟩
def JX(A:i')(l:L')(c:Nat)  (f:Int->Bool)(w:World)(z:l.length<=1000000)(h:At 1 Zc w A l)(j:∀y∈l,∀W,QB w W->Calls prog 97 (#[.int .i64 y]++#[]) W (Qt W (f y))):Calls prog 70 #[.slice A l.length c,.func (.func 97) #[] #[]] w (Qt w (l.any f)):=by have p:=VM A l c  f w z h j;generalize (l.any f)=q at*;generalize l.length=n at*;clear h j;go_enter func70,ntmps70;go_wp2_with (go_at_call 98;refine p.mono ?_;rintro e E ⟨⟨r,rfl,D⟩,u⟩);go_ret;exact⟨rfl,u⟩
def VN(A:i')(l:L')(c:Nat)  (f:Int->Bool)(w:World)(d:l.length<=1000000)(G:At 1 Zc w A l)(X:∀y∈l,∀W,QB w W->Calls prog 71 (#[.int .i64 y]++#[]) W (Qt W (f y))):Calls prog 98 #[.slice A l.length c,.func (.func 71) #[] #[]] w fun e m=>(∃r:Int,e=.returned r/\decide (0<=r)=l.any f)/\QB w m:=by
 have z:=w0 X;have H:=w0 G;obtain⟨n,V⟩:=Qu l.length;have J:=w0 V;rw[V]at d |-;clear G X V;go_enter func98,ntmps98;go_wp2_with fail;go_loopw [8] (fun i wr=>∃k:Nat,k<=n/\i=.int .i64 k/\Hid (((l.take k).any f)=false)/\QB w wr)(fun i _=>n-(intOf i).toNat);case atStart=>exact⟨0,k2 _,rfl,rfl,l3 _ _⟩
 case round=>
  obtain⟨k,x,rfl,u,j⟩:=hrel;by_cases U:k<n
  .obtain⟨y,N⟩:∃y,l[k]?=some y:=⟨_,h' (by rw[J.out];exact U)⟩;obtain⟨b,o,rfl,Z,Y⟩:=H.out.below j k y N;have D:=w0 fun W I=>z.out y (k3 N) W I;obtain⟨q,O⟩:=Qu (f y);have E:Hid (((l.take (k+1)).any f)=q):=by obtain⟨R,a⟩:=p1.1 N;unfold Hid;rw[F0 R,E8,a,u.out];simpa using O
   have F:Hid (q=true->(l.any f)=true):=fun h=>by rw[h0];exact⟨y,k3 N,by rw[O,h]⟩
   rw[O]at D;(have t:=Y 0 _ rfl;simp only[w7,w8]at t);have v:(k:Int)<(n:Int):=Qa
   clear Y N O u z;cases q
   .go_wp2_with (go_at_call 71;refine(D.out _ j).mono ?_;rintro e s ⟨rfl,I⟩;have j:=via j I);go_roundw;case rel=>exact⟨k+1,Qa,Qj,E,j⟩
    case measure=>simp[intOf];omega
   .have g:=F.out rfl;go_wp2_with (go_at_call 71;refine(D.out _ j).mono ?_;rintro e s ⟨rfl,I⟩;have j:=via j I);go_ret;exact⟨⟨k,rfl,by rw[g];simp⟩,j⟩
  .have S:k=n:=Qa
   subst S;have p:=u.out;rw[e0 (by rw[J.out];exact sW _)]at p;have L:=w0 p;clear u p z;go_wp2;go_ret;exact⟨⟨-1,rfl,by rw[L.out];decide⟩,j⟩
def VO(A:i')(l:L')(c:Nat)  (f:Int->Bool)(w:World)(z:l.length<=1000000)(h:At 1 Zc w A l)(j:∀y∈l,∀W,QB w W->Calls prog 71 (#[.int .i64 y]++#[]) W (Qt W (f y))):Calls prog 70 #[.slice A l.length c,.func (.func 71) #[] #[]] w (Qt w (l.any f)):=by have p:=VN A l c  f w z h j;generalize (l.any f)=q at*;generalize l.length=n at*;clear h j;go_enter func70,ntmps70;go_wp2_with (go_at_call 98;refine p.mono ?_;rintro e E ⟨⟨r,rfl,D⟩,u⟩);go_ret;exact⟨rfl,u⟩
def CI(lo hi m:Int)(w:World):Calls prog 84 #[.agg #[lo,hi],m] w (Qt w (fL lo hi m)):=by unfold fL;obtain⟨R,I⟩:=Qu (ZY lo 0 m);obtain⟨S,J⟩:=Qu (ZY hi 0 m);obtain⟨U,q⟩:=Qu (decide (lo<=hi));have j:=w0 fun W=>eL lo 0 m W;have p:=w0 fun W=>eL hi 0 m W;rw[I]at j |-;rw[J]at p |-;rw[q];have u:=w0 q;clear I J q;cases R;all_goals
  go_enter func84,ntmps84;go_wp2;refine k4 ?_;intro N h;have y:QB w N:=by rw[h];go_grown
  have O:N.heap[w.heap.size]?=some (.cells #[lo,hi] 63):=by rw[h];exact Qs
  have D:=bk2 O;clear h;have L:=u.out;refine B9 w 17 Qb Qb y ?_;intro F E;simp only[sT,j0,r4,e5];repeat (go_big_quiet_step (first
   |(go_at_call 42;first|with_reducible exact Zd (j.out _)|with_reducible exact Zd (p.out _))|(go_at_call 40;with_reducible exact Zd (c9 _ _ _))))
  refine ZyG ?_;intro V z H G;clear F E;go_wp2_with (go_at_call 38;refine(iB _ _ _).mono ?_;rintro e a ⟨rfl,rfl⟩);go_ret;exact⟨aU Qd,Qi⟩
def VP(p q:Pa)(B:Nat)(w:World)(a:w.heap[B]?=some (.cells #[.string p.nm,p.a0,p.a1,p.c0,p.c1] 70)):Calls prog 94 (#[.agg #[.string q.nm,q.a0,q.a1,q.c0,q.c1]]++#[.pointer (some B)]) w (Qt w (eqS q.nm p.nm)):=by
 have h:w.cell? B=some (.string p.nm):=by unfold World.cell?;simp[a]
 have j:=ZG a;clear a;simp only[iO,hP,e9];go_enter func94,ntmps94;go_wp2;go_ret;exact⟨fW (by simp[eqS]),Qi⟩
def VQ(p q:En)(B:Nat)(w:World)(a:w.heap[B]?=some (.cells #[.string p.nm,.slice p.A p.co.length p.c,p.mo] 49)):Calls prog 96 (#[.agg #[.string q.nm,.slice q.A q.co.length q.c,q.mo]]++#[.pointer (some B)]) w (Qt w (eqS q.nm p.nm)):=by have h:=(bk3 a).1;have j:=ZG a;clear a;simp only[iO,hP,e9];go_enter func96,ntmps96;go_wp2;go_ret;exact⟨fW (by simp[eqS]),Qi⟩
def JY(n:Int)(w:World):Calls prog 97 (#[.int .i64 n]++#[]) w (Qt w (.bool (!dA n 20))):=by simp only[iO,hP,e9];go_enter func97,ntmps97;go_wp2_with (go_at_call 58;refine(rK _ _ _ Qc).mono ?_;rintro e a ⟨rfl,rfl⟩);go_ret;exact⟨rfl,l3 _ _⟩
variable {w:World} {ps:z1} {i:Nat} {es:e6}
def At.take'{α:Type} {a:Nat} {cs:α->List Value} {A:i'} {l:List α} (h:At a cs w A l)(n:Nat):At a cs w A (l.take n):=by
 intro k x j;rw[eY]at j;split at j;·exact h k x j
 .cases j
def E3:List Int->Nat->Option (Nat×Int)|[],_=>none|e::l,k=>if e=0 then E3 l (k+1)else some (k,e)
def l6:∀(l:L')(k:Nat),(∀i,i<l.length->l.getD i 0=0)->E3 l k=none|[],_,_=>rfl|e::l,k,h=>by unfold E3;rw[Zde (show e=0 by simpa using h 0 Qd)];exact l6 l (k+1) fun i a=>by have:=h (i+1) (by simpa using a);simpa using this
def mQ:∀(l:L')(k i:Nat),i<l.length->(∀j,j<i->l.getD j 0=0)->l.getD i 0≠0->E3 l k=some (k+i,l.getD i 0)|[],_,_,h,_,_=>by simp at h|e::l,k,0,_,_,h=>by unfold E3;rw[q' (show ¬e=0 by simpa using h)];rfl|e::l,k,i+1,hi,h1,h2=>by unfold E3;rw[Zde (show e=0 by simpa using h1 0 Qa),mQ l (k+1) i (by simpa using hi) (fun j p=>by simpa using h1 (j+1) Qa) (by simpa using h2)];simp;omega
def dH(ps:z1)(i:Nat)(p:Pa):Int:=Z6 [unl (hT p.nm.data.toList) 4,unl (!((ps.take i).any fun q=>eqS q.nm p.nm)) 5,fL p.a0 p.a1 400,fL p.c0 p.c1 20]
def dL(np:Nat)(es:e6)(i:Nat)(x:En):Int:=Z6 [unl (hT x.nm.data.toList) 4,unl (!((es.take i).any fun y=>eqS y.nm x.nm)) 5,unl (decide (x.co.length=np)) 10,unl (!((x.mo::x.co).any fun n=>!dA n 20)) 2]
def gB(ps:z1):List Int:=ps.mapIdx fun i p=>dH ps i p
def fH(np:Nat)(es:e6):List Int:=es.mapIdx fun i x=>dL np es i x
def S'{p:Pa} (h:ps[i]?=some p):(gB ps).getD i 0=dH ps i p:=by simp[gB,D1,h]
def V7{np:Nat} {x:En} (h:es[i]?=some x):(fH np es).getD i 0=dL np es i x:=by simp[fH,D1,h]
def cS(n:Nat):Int:=Z6 [unl (decide (0<n)) 10,unl (decide (n<=5)) 8]
def hI(ps:z1)(es:e6):Int×Int:=if cS ps.length≠0 then (0,cS ps.length) else match E3 (gB ps) 0 with|some (k,e)=>((k:Int),e)|none=>if 8<es.length then (0,8)else match E3 (fH ps.length es) 0 with|some (k,e)=>((k:Int),e)|none=>(0,0)
structure BookAt (w:World)(pA:i')(pc:Nat)(ps:z1)(eA:i')(ec:Nat)(es:e6):Prop where
 P:At 5 Pa.cs w pA ps
 E:h7 w eA es
 pc':ps.length<=pc
 ec':es.length<=ec
 nil:∀x∈es,x.A=none->x.c=0
def BookAt.below{w':World} {q j:i'} {u p:Nat} (h:BookAt w q u ps j p es)(hb:QB w w'):BookAt w' q u ps j p es:=⟨h.P.below hb,h.E.below hb,h.pc',h.ec',h.nil⟩
structure FewB (ps:z1)(es:e6):Prop where
 p:ps.length<=1000
 e:es.length<=1000
 pn:∀p∈ps,p.nm.size<=1000
 en:∀x∈es,x.nm.size<=1000
 co:∀x∈es,x.co.length<=1000
def VS{P:aA} {b:aG} {Q:bK} {l:bL} {a:Act} (h:∀W,W=w->wpList P b Q l a W):wpList P b Q l a w:=h w rfl
def VT(pA eA:i')(pc Q F d:Nat)(ps:z1)(es:e6)(w:World)(hB:BookAt w pA pc ps eA Q es)(hF:FewB ps es)(aS:ps.length=F)(aP:es.length=d):Calls prog 69 #[.agg #[.slice pA F pc,.slice eA d Q]] w (Qt w (.tuple #[(hI ps es).1,(hI ps es).2])):=by
 have cO:F<=pc:=by rw[<-aS];exact hB.pc'
 have cM:d<=Q:=by rw[<-aP];exact hB.ec'
 have cN:F<=1000:=by rw[<-aS];exact hF.p
 have cL:d<=1000:=by rw[<-aP];exact hF.e
 have aK:=w0 hB;have bB:=w0 hF;have aE:=w0 aS;have Y:=w0 aP;have hv:=w0 (show hI ps es=if cS F≠0 then (0,cS F) else match E3 (gB ps) 0 with
    |some (k,e)=>((k:Int),e)|none=>if 8<d then (0,8)else match E3 (fH F es) 0 with
     |some (k,e)=>((k:Int),e)|none=>(0,0)by rw[<-aS,<-aP];rfl);obtain⟨V,hV⟩:=Qu (hI ps es);rw[hV]at hv |-;have aY:Hid (cS F=Z6 [unl (decide (0<F)) 10,unl (decide (F<=5)) 8]):=rfl;obtain⟨S,hS⟩:=Qu (cS F);rw[hS]at hv aY;clear hB hF aS aP hV hS;obtain⟨s1,bF⟩:=Qu (decide (0<F));obtain⟨s2,bG⟩:=Qu (decide (F<=5));rw[bF,bG]at aY;have bP:decide ((0:Int)<(F:Int))=s1:=by rw[<-bF,wE];omega
 have bQ:decide ((F:Int)<=5)=s2:=by rw[<-bG,wE];omega
 go_enter func69,ntmps69;go_wp2;refine k4 ?_;intro w1 bH;have bE:QB w w1:=by rw[bH];go_grown
 have M0:w1.heap[w.heap.size]?=some (.cells #[.slice pA F pc,.slice eA d Q] 25):=by rw[bH];exact Qs
 have D:=bk2 M0;clear bH;refine B9 w 10 Qb Qb bE ?_;intro aH aG;simp only[sT,j0,r4,e5];repeat (go_big_quiet_step ((go_at_call 40;with_reducible exact Zd (c9 _ _ _))))
 refine ZyG ?_;intro wb h G aA;clear aH aG;have g:=Zx h M0;have D2:=bk2 g;have I:=via bE h;clear M0 D bE h;have M:=w0 aY.out.symm;by_cases bD:S=0
 .subst bD;have z:=M.out;have aT:=w0 (show V=match E3 (gB ps) 0 with|some (k,e)=>((k:Int),e)|none=>if 8<d then (0,8)else match E3 (fH F es) 0 with
     |some (k,e)=>((k:Int),e)|none=>(0,0)by rw[hv.out,q' Qd]);clear hv aY M bF bG bP bQ;go_wp2_with (go_at_call 38;refine(iB _ _ _).mono ?_;rw[z];rintro e w' ⟨rfl,rfl⟩);go_loopw [32] (fun i wr=>∃k:Nat,k<=F/\i=.int .i64 k/\Hid (∀j,j<k->(gB ps).getD j 0=0)/\wr.heap[w.heap.size]?=some (.cells #[.slice pA F pc,.slice eA d Q] 25 (0,0))/\QB w wr)(fun i _=>F-(intOf i).toNat);case atStart=>exact⟨0,k2 _,rfl,fun j hj=>Qa,Qs,Qi⟩
  case round=>
   clear g D2 I G aA z;obtain⟨k,hk,rfl,B,g,I⟩:=hrel;have D:=bk2 g;by_cases aI:k<F
   .have cA:(k:Int)<(F:Int):=Qa
    obtain⟨p,hp⟩:∃p,ps[k]?=some p:=⟨_,h' (by rw[aE.out];exact aI)⟩;obtain⟨b,o,rfl,bW,t⟩:=(aK.out.below I).P k p hp;have y0:=t 0 _ rfl;have y1:=t 1 _ rfl;have y2:=t 2 _ rfl;have y3:=t 3 _ rfl;have y4:=t 4 _ rfl;simp only[w7]at y0;have N:=w0 (S' hp);have cC:¬((pc:Int)<(k:Int)):=Qa
    have bM:(k:Int)<=(pc:Int):=Qa
    have H:=w0 (by have m:=VJ (some ⟨b,o,none⟩) (ps.take k) pc wr.heap.size (fun q=>eqS q.nm p.nm) (wr.alloc (.cells #[.string p.nm,p.a0,p.a1,p.c0,p.c1] 70)) (by rw[Q3];have:=aE.out;omega) (((aK.out.below I).P.take' k).below (ZC _ _)) (fun y _ W hW=>VP p y wr.heap.size W (Zx hW (ZA _ _ rfl)));rw[Q3,aE.out,Dn Qa]at m;exact m);obtain⟨q,hq⟩:∃q,(ps.take k).any (fun q=>eqS q.nm p.nm)=q:=⟨_,rfl⟩;rw[hq]at H;have X:Hid (dH ps k p=Z6 [unl (hT p.nm.data.toList) 4,unl (!((ps.take k).any fun q=>eqS q.nm p.nm)) 5,fL p.a0 p.a1 400,fL p.c0 p.c1 20]):=rfl;rw[hq]at X;obtain⟨E,hE⟩:=Qu (dH ps k p);rw[hE]at X N;have aX:=w0 (show p.nm.size<=9223372036854775807 from h9 (bB.out.pn p (k3 hp)) Qc);have cE:=ZG g;clear t hp hq hE;go_wp2_with (go_at_call 93;refine H.out.mono ?_;rintro e f ⟨rfl,J⟩);have a:=Zx J (Zz g (.cells #[.string p.nm,p.a0,p.a1,p.c0,p.c1] 70));have O:=Zx J (ZA wr (.cells #[.string p.nm,p.a0,p.a1,p.c0,p.c1] 70) rfl);have aC:=via I (via (ZC wr (.cells #[.string p.nm,p.a0,p.a1,p.c0,p.c1] 70)) J);have e0:f.cell? wr.heap.size=some (.string p.nm):=by unfold World.cell?;simp[O]
    have e1:f.cell? ⟨wr.heap.size,1,none⟩=some (.int .i64 p.a0):=by unfold World.cell?;simp[O]
    have e2:f.cell? ⟨wr.heap.size,2,none⟩=some (.int .i64 p.a1):=by unfold World.cell?;simp[O]
    have e3:f.cell? ⟨wr.heap.size,3,none⟩=some (.int .i64 p.c0):=by unfold World.cell?;simp[O]
    have e4:f.cell? ⟨wr.heap.size,4,none⟩=some (.int .i64 p.c1):=by unfold World.cell?;simp[O]
    have cP:=ZG O;clear y0 y1 y2 y3 y4 J D g H;refine B9 w 13 Qb Qb aC ?_;intro aH aG;simp only[sT,j0,r4,e5];repeat (go_big_quiet_step (first|(go_at_call 24;with_reducible exact Grew.call (Ix _ _ aX.out))|(go_at_call 40;with_reducible exact Zd (c9 _ _ _))|(go_at_call 84;with_reducible exact Grew.call (CI _ _ _ _))))
    refine ZyG ?_;intro wb h G aA;clear aH aG;have P0:=Zx h a;clear a O e0 e1 e2 e3 e4 aC h;have M:=w0 X.out.symm;have z:=M.out;by_cases R:E=0
    .subst R;go_wp2_with (go_at_call 38;refine(P6 _ _ _ _ _).mono ?_;rw[z];rintro e w' ⟨rfl,rfl⟩);go_roundw;case rel=>exact⟨k+1,Qa,Qj,(fun j hj=>by
      by_cases aQ:j=k;·rw[aQ,N.out]
      .exact B.out j Qa),Zz P0 _,via G (ZC _ _)⟩
     case measure=>exact Qv
    .have bK : (E != 0) = true := by simpa using R
     have aV:=w0 (show V=((k:Int),E)by rw[aT.out,mQ (gB ps) 0 k (by simp[gB];rw[aE.out];exact aI) B.out (by rw[N.out];exact R),N.out];simp);go_wp2_with (go_at_call 38;refine(P6 _ _ _ _ _).mono ?_;rw[z];rintro e w' ⟨rfl,rfl⟩);go_ret2;exact⟨by rw[aV.out];rfl,Qi⟩
   .obtain rfl:F=k:=Qa
    have bS:=w0 (show V=if 8<d then (0,8)else match E3 (fH F es) 0 with
      |some (k,e)=>((k:Int),e)|none=>(0,0)by rw[aT.out,l6 (gB ps) 0 fun i v=>B.out i (by simp[gB]at v;rw[aE.out]at v;exact v)]);clear B aI aT;by_cases h8:8<d
    .have aU:=w0 (show V=(0,8)by rw[bS.out,Zde h8]);have bT:(8:Int)<(d:Int):=Qa
     go_wp2;go_ret2;exact⟨by rw[aU.out];rfl,Qi⟩
    .have bT:¬(8:Int)<(d:Int):=Qa
     have aU:=w0 (show V=match E3 (fH F es) 0 with|some (k,e)=>((k:Int),e)|none=>(0,0)by rw[bS.out,q' h8]);go_wp2;go_loopw [70] (fun i wr=>∃k:Nat,k<=d/\i=.int .i64 k/\Hid (∀j,j<k->(fH F es).getD j 0=0)/\wr.heap[w.heap.size]?=some (.cells #[.slice pA F pc,.slice eA d Q] 25)/\QB w wr)(fun i _=>d-(intOf i).toNat);case atStart=>exact⟨0,k2 _,rfl,fun j hj=>Qa,g,I⟩
     case round=>
      clear g D I;obtain⟨k,hk,rfl,B,g,I⟩:=hrel;have D:=bk2 g;by_cases aI:k<d
      .have cA:(k:Int)<(d:Int):=Qa
       obtain⟨x,hx⟩:∃x,es[k]?=some x:=⟨_,h' (by rw[Y.out];exact aI)⟩;have aW:=k3 hx;obtain⟨b,o,rfl,bW,t⟩:=(aK.out.below I).E.1 k x hx;have y0:=t 0 _ rfl;have y1:=t 1 _ rfl;have y2:=t 2 _ rfl;simp only[w7]at y0;have N:=w0 (V7 (np:=F) hx);have cC:¬((Q:Int)<(k:Int)):=Qa
       have bM:(k:Int)<=(Q:Int):=Qa
       have H:=w0 (by have m:=VL (some ⟨b,o,none⟩) (es.take k) Q wr.heap.size (fun y=>eqS y.nm x.nm) (wr.alloc (.cells #[.string x.nm,.slice x.A x.co.length x.c,x.mo] 49)) (by rw[Q3];have:=Y.out;omega) (((aK.out.below I).E.1.take' k).below (ZC _ _)) (fun y _ W hW=>VQ x y wr.heap.size W (Zx hW (ZA _ _ rfl)));rw[Q3,Y.out,Dn Qa]at m;exact m);obtain⟨q,hq⟩:=Qu ((es.take k).any (fun y=>eqS y.nm x.nm));rw[hq]at H;have X:Hid (dL F es k x=Z6 [unl (hT x.nm.data.toList) 4,unl (!((es.take k).any fun y=>eqS y.nm x.nm)) 5,unl (decide (x.co.length=F)) 10,unl (!((x.mo::x.co).any fun n=>!dA n 20)) 2]):=rfl;rw[hq]at X;obtain⟨E,hE⟩:=Qu (dL F es k x);rw[hE]at X N;have aX:=w0 (show x.nm.size<=9223372036854775807 from h9 (bB.out.en x aW) Qc);have bJ:=w0 ((aK.out.below I).E.2 x aW);have bZ:=bB.out.co x aW;have bA:=w0 (aK.out.nil x aW);have cE:=ZG g;obtain⟨L,hL⟩:=Qu x.co.length;have bC:=w0 hL;rw[hL]at H X bZ y1;obtain⟨r,hr⟩:=Qu ((x.mo::x.co).any (fun n=>!dA n 20));have bO:=w0 hr;rw[hr]at X;obtain⟨s,hs⟩:=Qu (decide (L=F));rw[hs]at X;have bR:((L:Int)==(F:Int))=s:=by rw[<-hs,eN];simp;omega
       obtain⟨i0,v,cG,cH,cI⟩:=n9 info3;clear t hx aW hq hE hL hr;have aR:=w0 fun(y:World)=>(⟨rfl,.inr ⟨y.heap.size,1,#[.int .i64 x.mo],rfl,sW _,ZA _ _ rfl,sW _,Qc,rfl,rfl⟩⟩:(y.alloc (.cells #[x.mo] 3)).ownsRow y.heap.size 3 1 (.slice (some y.heap.size) 1 1) 1 [.int .i64 x.mo]);obtain⟨XA,bV⟩:=Qu x.A;rw[bV]at y1 bJ bA H;rcases XA with _|ad
       .have aO:x.co=[]:=by cases hh:x.co with|nil=>rfl|cons y l=>obtain⟨b',o',e,-⟩:=bJ.out 0 y (by rw[hh];rfl);cases e
        have bU:L=0:=by rw[<-bC.out,aO];rfl
        subst bU;have cJ:((0:Int)==(F:Int))=s:=bR;clear bR;have bX:=bA.out rfl;rw[bX]at y1 H;have H:=w0 H.out;go_wp2_with (first|(go_at_call 95;refine H.out.mono ?_;rintro e f ⟨rfl,J⟩;have O:=Zx J (ZA wr (.cells #[.string x.nm,.slice none 0 0,x.mo] 49) rfl);have K:=bk3 O;have a:=Zx J (Zz g (.cells #[.string x.nm,.slice none 0 0,x.mo] 49));have C:=bk2 a;have aC:=via I (via (ZC wr (.cells #[.string x.nm,.slice none 0 0,x.mo] 49)) J))|(at_builtin;refine wpList_append_own_none rfl _ _ 30 rfl f.heap.size 3 i0 1 underlying30 v _ 1 [.int .i64 x.mo] rfl (aR.out f) rfl ?_;refine UQ ?stop));case stop=>
        refine w0 ?_;refine VS ?_;intro w4 bI;have U:QB f w4:=by rw[bI];exact ZC _ _
        have aF:=w0 (show At 1 Zc w4 (some ⟨f.heap.size,0,none⟩) (x.mo::x.co)by rw[aO,bI];exact(ZN.new (T:=3) f [x.mo]).at');have aD:=w0 (show (x.mo::x.co).length=1 by rw[aO];rfl);clear bI;have aL:=w0 (by have m:=JX _ (x.mo::x.co) 1 (fun n=>!dA n 20) w4 (by rw[aD.out];omega) aF.out (fun y _ W hW=>JY y W);rw[bO.out,aD.out]at m;exact m);have O0:=Zx U a;have O1:=Zx U O;have aM:=via aC U;have C:=bk2 O0;have K:=bk3 O1;clear a O aC H;go_wp2_with (go_at_call 70;refine aL.out.mono ?_;rintro e w6 ⟨rfl,Z⟩);have a:=Zx Z O0;have O:=Zx Z O1;have aN:=via aM Z;clear C K O0 O1 aM Z aL;have C:=bk2 a;have K:=bk3 O;have cD:=ZG O;refine B9 w 18 Qb Qb aN ?_;intro aH aG;simp only[sT,j0,r4,e5];repeat (go_big_quiet_step (first
         |(go_at_call 24;with_reducible exact Grew.call (Ix _ _ aX.out))|(go_at_call 40;with_reducible exact Zd (c9 _ _ _))))
        refine ZyG ?_;intro wb h G aA;clear aH aG;have P0:=Zx h a;clear a O C K aN h;have M:=w0 X.out.symm;have z:=M.out;by_cases R:E=0
        .subst R;go_wp2_with (go_at_call 38;refine(P6 _ _ _ _ _).mono ?_;rw[z];rintro e w' ⟨rfl,rfl⟩);go_roundw;case rel=>exact⟨k+1,Qa,Qj,(fun j hj=>by
          by_cases aQ:j=k;·rw[aQ,N.out]
          .exact B.out j Qa),Zz P0 _,via G (ZC _ _)⟩
         case measure=>exact Qv
        .have bK : (E != 0) = true := by simpa using R
         have aV:=w0 (show V=((k:Int),E)by rw[aU.out,mQ (fH F es) 0 k (by simp[fH];rw[Y.out];exact aI) B.out (by rw[N.out];exact R),N.out];simp);go_wp2_with (go_at_call 38;refine(P6 _ _ _ _ _).mono ?_;rw[z];rintro e w' ⟨rfl,rfl⟩);go_ret2;exact⟨by rw[aV.out];rfl,Qi⟩
       .go_wp2_with (first|(go_at_call 95;refine H.out.mono ?_;rintro e f ⟨rfl,J⟩;have O:=Zx J (ZA wr (.cells #[.string x.nm,.slice (some ad) L x.c,x.mo] 49) rfl);have K:=bk3 O;have a:=Zx J (Zz g (.cells #[.string x.nm,.slice (some ad) L x.c,x.mo] 49));have C:=bk2 a;have aC:=via I (via (ZC wr (.cells #[.string x.nm,.slice (some ad) L x.c,x.mo] 49)) J))|(at_builtin;refine X0 _ rfl _ _ 30 rfl f.heap.size 3 i0 (.int .i64 0) 1 8 underlying30 v cG cH cI rfl Qc _ _ _ rfl (aR.out f) ad L x.c (x.co.map (Value.int .i64)) rfl ?c0 ?c1 ?c2 ?c3 ?c4 ?c5 ?_));case c0=>rw[sA,bC.out,w8]
        case c1=>
         intro j u hu;rw[C2]at hu;obtain⟨y,hy,rfl⟩:=e'.1 hu;obtain⟨b',o',e,-,bY⟩:=((bJ.out.below (via (ZC wr (.cells #[.string x.nm,.slice (some ad) L x.c,x.mo] 49)) J)).below (ZC f (.cells #[x.mo] 3))) j y hy;cases e;have e:Addr.add ⟨b',o',none⟩ j=⟨b',o'+j,none⟩:=by unfold Addr.add;split<;>simp_all
         rw[e];simpa using bY 0 _ rfl
        case c2=>intro u hu;obtain⟨y,-,rfl⟩:=b3.1 hu;rfl
        case c3=>unfold maxLen;omega
        case c4=>omega
        case c5=>simp
        intro v4 w4 aJ bL _;obtain⟨A4,c4,rfl⟩:=Z3 aJ;have U:QB f w4:=ZS (ZC f _) bL fun b e=>by cases e;exact sW _
        have aZ:=e7 (l:=x.mo::x.co) aJ;have bN:(x.mo::x.co).length=1+L:=by simp only[y'];rw[bC.out];omega
        have aF:=w0 aZ;have aD:=w0 bN;clear aJ bL aZ bN;have aL:=w0 (by have m:=JX _ (x.mo::x.co) c4 (fun n=>!dA n 20) w4 (by rw[aD.out];omega) aF.out (fun y _ W hW=>JY y W);rw[bO.out,aD.out]at m;exact m);have O0:=Zx U a;have O1:=Zx U O;have aM:=via aC U;have C:=bk2 O0;have K:=bk3 O1;clear a O aC H;go_wp2_with (go_at_call 70;refine aL.out.mono ?_;rintro e w6 ⟨rfl,Z⟩);have a:=Zx Z O0;have O:=Zx Z O1;have aN:=via aM Z;clear C K O0 O1 aM Z aL;have C:=bk2 a;have K:=bk3 O;have cD:=ZG O;refine B9 w 18 Qb Qb aN ?_;intro aH aG;simp only[sT,j0,r4,e5];repeat (go_big_quiet_step (first|(go_at_call 24;with_reducible exact Grew.call (Ix _ _ aX.out))|(go_at_call 40;with_reducible exact Zd (c9 _ _ _))))
        refine ZyG ?_;intro wb h G aA;clear aH aG;have P0:=Zx h a;clear a O C K aN h;have M:=w0 X.out.symm;have z:=M.out;by_cases R:E=0
        .subst R;go_wp2_with (go_at_call 38;refine(P6 _ _ _ _ _).mono ?_;rw[z];rintro e w' ⟨rfl,rfl⟩);go_roundw;case rel=>exact⟨k+1,Qa,Qj,(fun j hj=>by
          by_cases aQ:j=k;·rw[aQ,N.out]
          .exact B.out j Qa),Zz P0 _,via G (ZC _ _)⟩
         case measure=>exact Qv
        .have bK : (E != 0) = true := by simpa using R
         have aV:=w0 (show V=((k:Int),E)by rw[aU.out,mQ (fH F es) 0 k (by simp[fH];rw[Y.out];exact aI) B.out (by rw[N.out];exact R),N.out];simp);go_wp2_with (go_at_call 38;refine(P6 _ _ _ _ _).mono ?_;rw[z];rintro e w' ⟨rfl,rfl⟩);go_ret2;exact⟨by rw[aV.out];rfl,Qi⟩
      .obtain rfl:d=k:=Qa
       have cF:=w0 (show V=(0,0)by rw[aU.out,l6 (fH F es) 0 fun i v=>B.out i (by simp[fH]at v;rw[Y.out]at v;exact v)]);go_wp2;go_ret2;exact⟨by rw[cF.out];rfl,I⟩
 .have cK : (S != 0) = true := by simpa using bD
  have aT:=w0 (show V=(0,S)by rw[hv.out,Zde bD]);have z:=M.out;go_wp2_with (go_at_call 38;refine(iB _ _ _).mono ?_;rw[z];rintro e w' ⟨rfl,rfl⟩);go_ret2;exact⟨by rw[aT.out];rfl,Qi⟩
def kR(q h:i')(u j y p:Nat)(ps:z1)(es:e6)(w:World)(hB:BookAt w q u ps h j es)(hF:FewB ps es)(E:ps.length=y)(D:es.length=p):Calls prog 39 #[.agg #[.slice q y u,.slice h p j]] w (Qt w ((hI ps es).2)):=by have F:=w0 (VT q h u j y p ps es (w.alloc (.cells #[.slice q y u,.slice h p j] 25)) (hB.below (ZC _ _)) hF E D);go_enter func39,ntmps39;go_wp2_with (go_at_call 69;refine F.out.mono ?_;rintro e a ⟨rfl,z⟩);go_ret;exact⟨rfl,via (ZC _ _) z⟩
def N0(ps:z1)(es:e6)(k a:Int):Int:=Z6 [(hI ps es).2,hU k a]
def CJ(D u:i')(F y G z:Nat)(ps:z1)(es:e6)(k a:Int)(w:World)(hB:BookAt w D F ps u y es)(hF:FewB ps es)(q:ps.length=G)(p:es.length=z):Calls prog 48 #[.agg #[.slice D G F,.slice u z y],.agg #[k,a]] w (Qt w (N0 ps es k a)):=by
 unfold N0;have R:=w0 fun W (X:QB w W)=>kR D u F y G z ps es W (hB.below X) hF q p;obtain⟨E,S⟩:=Qu ((hI ps es).2);rw[S]at R |-;clear hB hF q p S;go_enter func48,ntmps48;go_wp2;refine k4 ?_;intro O h;have H:QB w O:=by rw[h];go_grown
 have U:O.heap[w.heap.size]?=some (.cells #[.slice D G F,.slice u z y] 25):=by rw[h];exact Qs
 have V:O.heap[w.heap.size+1]?=some (.cells #[k,a] 27):=by rw[h];exact Qs
 have Y:=bk2 U;have Z:=bk2 V;clear h;refine B9 w 4 Qb Qb H ?_;intro J j;simp only[sT,j0,r4,e5];repeat (go_big_quiet_step (first
  |(go_at_call 39;with_reducible exact Grew.call (R.out _ (j.out _)))|(go_at_call 41;with_reducible exact Grew.call (rL _ _ _))))
 refine ZyG ?_;intro c I N L;clear J j;go_wp2_with (go_at_call 38;refine(iB _ _ _).mono ?_;rintro e b ⟨rfl,rfl⟩);go_ret;exact⟨rfl,Qi⟩
def ZE(ps:z1)(k ag:Int):List Int:=ps.map fun p=>if k=0 then p.a0 else if ag<=p.a0 then 1 else 0
def CK{ps:z1} {k ag:Int} {j:Nat} {p:Pa} (h:ps[j]?=some p):ZE (ps.take (j+1)) k ag=ZE (ps.take j) k ag++[if k=0 then p.a0 else if ag<=p.a0 then 1 else 0]:=by unfold ZE;rw[w9,h];simp
def CN(s Q:i')(pc W I en:Nat)(ps:z1)(k ag:Int)(w:World)(n:At 5 Pa.cs w s ps)(m:ps.length=I)(hp:I<=1000):Calls prog 51 #[.agg #[.slice s I pc,.slice Q en W],.agg #[k,ag]] w fun e t=>(∃A c,e=.returned (.slice A I c)/\t.ownsRow w.heap.size 3 1 (.slice A I c) I ((ZE ps k ag).map (Value.int .i64)))/\QB w t:=by
 have K:=w0 n;have N:=w0 m;obtain⟨l,g,U,V,X⟩:=n9 info3;clear n m;go_enter func51,ntmps51;go_wp2;go_loopw [5,11] (fun v i wr=>∃j:Nat,j<=I/\i=.int .i64 j/\Hid (wr.ownsRow (w.heap.size+2) 3 1 v j ((ZE (ps.take j) k ag).map (Value.int .i64)))/\wr.heap[w.heap.size+1]?=some (.cells #[k,ag] 27)/\QB w wr)(fun _ i _=>I-(intOf i).toNat);case atStart=>exact⟨0,k2 _,rfl,w0 (gE _ _ _ _),Qs,Qi⟩
 case round=>
  obtain⟨j,hj,rfl,G,d,H⟩:=hrel;obtain⟨B,c5,rfl⟩:=Z3 G.out;have D1:=bk2 d;have aH:=ZG d;by_cases P:j<I
  .have aG:(j:Int)<(I:Int):=Qa
   obtain⟨p,S⟩:∃p,ps[j]?=some p:=⟨_,h' (by rw[N.out];exact P)⟩;obtain⟨b,o,rfl,aF,Y⟩:=K.out.below H j p S;have y0:=Y 0 _ rfl;have y1:=Y 1 _ rfl;have y2:=Y 2 _ rfl;have y3:=Y 3 _ rfl;have y4:=Y 4 _ rfl;simp only[w7]at y0;have E:=w0 (CK (k:=k) (ag:=ag) S);have D:=w0 (ZI G.out (ZC wr (.cells #[.string p.nm,p.a0,p.a1,p.c0,p.c1] 70)));have J:=w0 (via H (ZC wr (.cells #[.string p.nm,p.a0,p.a1,p.c0,p.c1] 70)));have f:=Zz d (.cells #[.string p.nm,p.a0,p.a1,p.c0,p.c1] 70);clear Y S G;by_cases L:k=0
   .have M:(k==0)=true:=by simp[L]
    have q:=w0 (show ZE (ps.take (j+1)) k ag=ZE (ps.take j) k ag++[p.a0]by rw[E.out,Zde L]);replace E:=q;clear q L;go_wp2_with (at_builtin;refine X0 _ rfl _ _ 30 rfl (w.heap.size+2) 3 l (.int .i64 0) 1 8 underlying30 g U V X rfl Qc _ _ _ rfl (D.out.alloc _) ⟨wr.heap.size+1,0,none⟩ 1 1 [.int .i64 (p.a0)] rfl rfl ?c1 ?c2 ?c3 ?c4 ?c5 ?_);try (case c1=>exact D7 _ [.int .i64 (p.a0)] _ Qd)
    case c2=>first|rfl|(intro u O;simp at O;subst O;rfl)
    case c3=>first|omega|(unfold maxLen;omega)
    case c4=>omega
    case c5=>have:=H.size;first|omega|(simp;omega)
    intro a R h y _;have z:=w0 (show R.ownsRow (w.heap.size+2) 3 1 a (j+1) ((ZE (ps.take (j+1)) k ag).map (Value.int .i64))from by rw[E.out,x0];exact h);have Z:=b5 y (Zz f _) (P3 D.out Qa);have F:QB w R:=ZS (via J.out (ZC _ _)) y fun b e=>by have:=(D.out.lt b e).1;omega
    clear h y;go_wp2;go_roundw;case rel=>exact⟨j+1,Qa,Qj,z.out,Z,F⟩
    case measure=>exact Qv
   .have M:(k==0)=false:=by simpa using L
    by_cases r:ag<=p.a0
    .have q:=w0 (show ZE (ps.take (j+1)) k ag=ZE (ps.take j) k ag++[1]by rw[E.out,q' L,Zde r]);replace E:=q;clear q L;go_wp2_with (at_builtin;refine X0 _ rfl _ _ 30 rfl (w.heap.size+2) 3 l (.int .i64 0) 1 8 underlying30 g U V X rfl Qc _ _ _ rfl (D.out.alloc _) ⟨wr.heap.size+1,0,none⟩ 1 1 [.int .i64 (1)] rfl rfl ?c1 ?c2 ?c3 ?c4 ?c5 ?_);try (case c1=>exact D7 _ [.int .i64 (1)] _ Qd)
     case c2=>first|rfl|(intro u O;simp at O;subst O;rfl)
     case c3=>first|omega|(unfold maxLen;omega)
     case c4=>omega
     case c5=>have:=H.size;first|omega|(simp;omega)
     intro a R h y _;have z:=w0 (show R.ownsRow (w.heap.size+2) 3 1 a (j+1) ((ZE (ps.take (j+1)) k ag).map (Value.int .i64))from by rw[E.out,x0];exact h);have Z:=b5 y (Zz f _) (P3 D.out Qa);have F:QB w R:=ZS (via J.out (ZC _ _)) y fun b e=>by have:=(D.out.lt b e).1;omega
     clear h y;go_wp2;go_roundw;case rel=>exact⟨j+1,Qa,Qj,z.out,Z,F⟩
     case measure=>exact Qv
    .have q:=w0 (show ZE (ps.take (j+1)) k ag=ZE (ps.take j) k ag++[0]by rw[E.out,q' L,q' r]);replace E:=q;clear q L;go_wp2_with (at_builtin;refine X0 _ rfl _ _ 30 rfl (w.heap.size+2) 3 l (.int .i64 0) 1 8 underlying30 g U V X rfl Qc _ _ _ rfl (D.out.alloc _) ⟨wr.heap.size+1,0,none⟩ 1 1 [.int .i64 (0)] rfl rfl ?c1 ?c2 ?c3 ?c4 ?c5 ?_);try (case c1=>exact D7 _ [.int .i64 (0)] _ Qd)
     case c2=>first|rfl|(intro u O;simp at O;subst O;rfl)
     case c3=>first|omega|(unfold maxLen;omega)
     case c4=>omega
     case c5=>have:=H.size;first|omega|(simp;omega)
     intro a R h y _;have z:=w0 (show R.ownsRow (w.heap.size+2) 3 1 a (j+1) ((ZE (ps.take (j+1)) k ag).map (Value.int .i64))from by rw[E.out,x0];exact h);have Z:=b5 y (Zz f _) (P3 D.out Qa);have F:QB w R:=ZS (via J.out (ZC _ _)) y fun b e=>by have:=(D.out.lt b e).1;omega
     clear h y;go_wp2;go_roundw;case rel=>exact⟨j+1,Qa,Qj,z.out,Z,F⟩
     case measure=>exact Qv
  .obtain rfl:I=j:=Qa
   have C:=w0 (show ps.take I=ps by rw[<-N.out,x1]);go_wp2;go_ret;exact⟨⟨B,c5,rfl,b2 (by have:=G.out;rwa [C.out]at this) (jF _ 2)⟩,H⟩
end Go.Proofs
namespace Go.Proofs
open Go.RowKit
variable {n lo hi k ag:Int} {ps:z1} {es:e6}
def bB{es:L'}:Z6 es=0↔∀e∈es,e=0:=by induction es with
 |nil=>simp[Z6]|cons e es ih=>
  unfold Z6;by_cases h:e=0;·rw[Zde h,ih];simp[h]
  .rw[q' h];simp[h]
def cT{b:Bool} (h:n≠0):unl b n=0↔b=true:=by unfold unl;cases b<;>simp[h]
def dB:ZY n lo hi=true↔lo<=n/\n<=hi:=by simp[ZY]
def HY:∀(l:L')(k:Nat),E3 l k=none->∀i,i<l.length->l.getD i 0=0
 |[],_,_,i,h=>by simp at h|e::l,k,h,i,hi=>by
  unfold E3 at h;split at h;·rename_i j;cases i with
   |zero=>simpa using j|succ i=>simpa using HY l (k+1) h i (by simpa using hi)
  .cases h
def HZ:∀(l:L')(k:Nat) {i:Nat} {e:Int},E3 l k=some (i,e)->e≠0
 |[],_,_,_,h=>by cases h|e::l,k,i,e',h=>by
  unfold E3 at h;split at h;·exact HZ l (k+1) h
  .rename_i j;cases h;exact j
def oU{m:Int}:fL lo hi m=0↔0<=lo/\lo<=m/\0<=hi/\hi<=m/\lo<=hi:=by unfold fL;rw[bB];simp only[ZBq,ZBH,ZyH,dX,dY];rw[cT Qc,cT Qc,aY,dB,dB,h6];omega
structure BookR (ps:z1)(es:e6):Prop where
 n1:1<=ps.length
 n5:ps.length<=5
 e8:es.length<=8
 part:∀i p,ps[i]?=some p->hT p.nm.data.toList=true/\(ps.take i).any (fun q=>eqS q.nm p.nm)=false/\(0<=p.a0/\p.a0<=400/\0<=p.a1/\p.a1<=400/\p.a0<=p.a1)/\(0<=p.c0/\p.c0<=20/\0<=p.c1/\p.c1<=20/\p.c0<=p.c1)
 ent:∀i x,es[i]?=some x->hT x.nm.data.toList=true/\(es.take i).any (fun y=>eqS y.nm x.nm)=false/\x.co.length=ps.length/\∀n∈x.mo::x.co,n.natAbs<=20
def hY:(hI ps es).2=0↔BookR ps es:=by
 have I:cS ps.length=0↔1<=ps.length/\ps.length<=5:=by unfold cS;rw[bB];simp only[ZBq,ZBH,ZyH,dX,dY];rw[cT Qc,cT Qc,h6,h6];omega
 have H:∀i p,dH ps i p=0↔hT p.nm.data.toList=true/\(ps.take i).any (fun q=>eqS q.nm p.nm)=false/\(0<=p.a0/\p.a0<=400/\0<=p.a1/\p.a1<=400/\p.a0<=p.a1)/\(0<=p.c0/\p.c0<=20/\0<=p.c1/\p.c1<=20/\p.c0<=p.c1):=fun i p=>by unfold dH;rw[bB];simp only[ZBq,ZBH,ZyH,dX,dY];rw[cT Qc,cT Qc,oU,oU,U2]
 have G:∀i x,dL ps.length es i x=0↔hT x.nm.data.toList=true/\(es.take i).any (fun y=>eqS y.nm x.nm)=false/\x.co.length=ps.length/\∀n∈x.mo::x.co,n.natAbs<=20:=fun i x=>by
  unfold dL;rw[bB];simp only[ZBq,ZBH,ZyH,dX,dY];rw[cT Qc,cT Qc,cT Qc,cT Qc,U2,U2,h6];have z:∀n:Int,dA n 20=true↔n.natAbs<=20:=fun n=>by unfold dA;rw[dB];omega
  have:(x.mo::x.co).any (fun n=>!dA n 20)=false↔∀n∈x.mo::x.co,n.natAbs<=20:=by
   rw[bY];constructor;·intro h n F;have:=h n F;rw[<-z];simpa using this
   .intro h n F;have:=(z n).2 (h n F);simp[this]
  rw[this];simp
 unfold hI;constructor
 .intro h;split at h;·rename_i u;exact absurd h u
  .rename_i u;have u:=I.1 (by simpa using u);split at h;·rename_i k e D;exact absurd h (HZ _ _ D)
   .rename_i D;split at h;·cases h
    .rename_i J;split at h;·rename_i k e E;exact absurd h (HZ _ _ E)
     .rename_i E;refine⟨u.1,u.2,Qa,fun i p hi=>?_,fun i x hi=>?_⟩;·rw[<-H,<-S' hi];exact HY _ _ D i (by simpa [gB] using (p1.1 hi).1)
      .rw[<-G,<-V7 hi];exact HY _ _ E i (by simpa [fH] using (p1.1 hi).1)
 .intro h;rw[q' (by simp[I.2 ⟨h.n1,h.n5⟩])];rw[l6 (gB ps) 0 fun i hi=>by
   have j:i<ps.length:=by simpa [gB] using hi
   rw[S' (h' j),H];exact h.part i _ (h' j)];simp only;rw[q' (by have:=h.e8;omega)];rw[l6 (fH ps.length es) 0 fun i hi=>by
   have j:i<es.length:=by simpa [fH] using hi
   rw[V7 (h' j),G];exact h.ent i _ (h' j)]
def BookR.right(h:BookR ps es):RightE es ps.length:=by refine⟨h.e8,fun x u=>?_⟩;obtain⟨i,hi⟩:=r2.1 u;obtain⟨-,-,p,j⟩:=h.ent i x hi;exact⟨p,fun n q=>j n (A5 _ q),j _ Qd⟩
def BookR.worths(h:BookR ps es)(k ag:Int):ZK 400 (ZE ps k ag):=by
 intro n j;obtain⟨p,q,rfl⟩:=b3.1 j;obtain⟨i,hi⟩:=r2.1 q;obtain⟨-,-,u,-⟩:=h.part i p hi;split;·omega
 .split<;>decide
def nI:N0 ps es k ag=0↔BookR ps es/\hU k ag=0:=by unfold N0;rw[bB];simp only[ZBq,ZBH,ZyH,dX,dY];rw[hY]
def kS:hU k ag=0↔(k=0∨k=1)/\0<=ag/\ag<=400:=by unfold hU;rw[bB];simp only[ZBq,ZBH,ZyH,dX,dY];rw[cT Qc,cT Qc,dB,dB];omega
end Go.Proofs
