import Derived.Test.YtiibhhpdcapbaaaGreatDoorMg3
import Derived.Handy
import Derived.WalkLawsBesides
import Derived.WalkSpells
import Derived.Lib.ConvBytes
import Derived.Lib.Hide
import Derived.StillTail
import Derived.BigQuiet
import Derived.RangeFuncKeeps
import Derived.Deep.OwnRows
import Derived.Laws.AppendOwnNone
import Derived.Deep.AppendLies
set_option linter.all false
def Qu.{u}{α:Sort u}(a:α):∃x,a=x:=⟨a,rfl⟩
def Qs{P:Prop}(h:P:=by (repeat (first|assumption|(refine ZA _ _ ?_;(simp;done))|refine ZD ?_|refine Zz ?_ _|refine ZC ?_ (by simp<;>omega) _))):P:=h
def Qr{P:Prop}(h:P:=by trivial):P:=h
def Qq{P:Prop}(h:P:=by unfold maxLen;omega):P:=h
def Qm{P:Prop}(h:P:=by decide+kernel):P:=h
def Qj{P:Prop}(h:P:=by go_num):P:=h
def Qi{P:Prop}(h:P:=by go_grown):P:=h
def Qf{P:Prop}(h:P:=by simp<;>omega):P:=h
set_option maxRecDepth 100000
set_option maxHeartbeats 16000000
namespace Go
def w6:=@congrArg
def Zyi:=@wpQuiet_nil
def x3:=@bodyPost_ret
def x0:=@info_parts
def hK:=@wp_region_any
def hM:=@World.ownsRow_nil
def fQ:=@mem_ready
def C0:=@wpList_append_own
def gM:=@getD_set_ne
def hU:=@World.size_alloc
def dL:=@forall_eq_or_imp
def dM:=@forall_eq
def cI:=@lt_of_block
def kG:=@run_store
def Q7:=@not_true_eq_false
def k8:=@wpList_plain
def lR:=@decide_eq_decide
def mV:=@Bool.and_true
def Bt:=@heap_alloc_new
def sR:=@Int.natCast_zero
def sS:=@Int.natCast_one
def sU:=@Int.cast_ofNat_Int
def mW:=@List.take_set
def Bz:=@List.mapM_toArray
def Cl:=@map_eq_pure_bind
def pE:=@World.cell?_alloc_at
def pF:=@RowKit.Below.heap_alloc
def FT:=@Int.add_assoc
def pG:=@List.range_succ_eq_map
def pH:=@List.map_id
def pI:=@List.map_congr_left
def pJ:=@Nat.pow_succ
def pK:=@Nat.one_mul
def pL:=@Nat.div_le_self
def yH:=@Int.mul_tdiv_add_tmod
def yI:=@Int.mul_add_ediv_left
def yJ:=@Int.ediv_eq_zero_of_lt
def yK:=@Lib.bytesWorld_size
def yL:=@Lib.bytesWorld_at_old
def yM:=@Region.noSelect_spec
def HR:=@getD_replicate_false
def yN:=@Nat.shiftRight_eq_div_pow
def yO:=@Nat.mod_two_eq_zero_or_one
def hH:=@RowKit.Below.heap_setCell
def q':=@RowKit.Below.refl
def p0:=@Bool.false_or
def p':=@Bool.true_or
def iA:=@Int.le_refl
def Q5:=@Int.mul_assoc
def dC:=@Int.mul_comm
def mX:=@Int.mul_ediv_cancel'
def Ix:=@Int.mul_le_mul_of_nonneg_left
def gY:=@Int.natAbs_mul
def j0:=@IntWalk.i64_in
def i':=@Lib.hid
def lW:=@List.any_append
def bN:=@List.any_eq_false
def bL:=@List.any_eq_true
def n7:=@List.append_assoc
def fI:=@List.append_toArray
def hP:=@List.cons_append
def l4:=@List.drop_eq_getElem_cons
def e5:=@List.drop_succ_cons
def sA:=@List.drop_zero
def dR:=@List.eq_nil_of_length_eq_zero
def aQ:=@List.filter_cons
def iB:=@List.flatMap_cons
def hR:=@List.getD_cons_succ
def hE:=@List.getD_cons_zero
def h6:=@List.getD_eq_getElem?_getD
def aM:=@List.getElem?_append_left
def aO:=@List.getElem?_append_right
def nK:=@List.getElem?_cons_succ
def n9:=@List.getElem?_cons_zero
def iM:=@List.getElem?_drop
def k2:=@List.getElem?_eq_getElem
def y':=@List.getElem?_eq_some_iff
def k3:=@List.getElem?_map
def eY:=@List.getElem?_replicate
def bC:=@List.getElem?_set
def dS:=@List.getElem?_take
def D1:=@List.getElem_mem
def gZ:=@List.getElem_of_mem
def r3:=@List.length_cons
def R':=@List.length_map
def C3:=@List.length_take
def b3:=@List.map_append
def dN:=@List.map_map
def sF:=@List.mem_append_left
def N2:=@List.mem_cons_of_mem
def r1:=@List.mem_iff_getElem?
def L':=@List.mem_map
def Jx:=@List.mem_or_eq_of_mem_set
def y0:=@List.mem_range
def s0:=@List.nil_append
def ZBj:=@List.not_mem_nil
def cM:=@List.range_succ
def l6:=@List.replicate_succ
def hZ:=@List.set_append_right
def M0:=@List.size_toArray
def aF:=@List.sum_cons
def w9:=@List.take_add_one
def x1:=@List.take_length
def g':=@List.take_of_length_le
def m':=@List.take_succ_cons
def l7:=@List.take_succ_eq_append_getElem
def sT:=@List.take_zero
def w5:=@Nat.add_mul
def A7:=@Nat.add_sub_cancel
def gK:=@Nat.lt_or_ge
def Q9:=@Nat.min_eq_left
def dB:=@Nat.mul_le_mul
def M3:=@Nat.mul_le_mul_right
def w8:=@Nat.mul_one
def Ok:=@Nat.pow_le_pow_right
def k5:=@Nat.succ_mul
def l8:=@Nat.two_pow_pos
end Go
namespace Go.Proofs
open Tryz
open Go.RowKit
variable {l:List UInt8} {k:Nat}
def aR{k:IntKind} {a b:Int} (h:a=b):Ending.returned (.int k a)=.returned (.int k b):=by rw[h]
def Q6(n b:Int)(a:0<b)(h:n.tmod b<0):n.tdiv b-1=n / b:=by
 have j:=yH n b;have p:-b<n.tmod b:=by have:=Int.lt_tmod_of_pos n a;omega
 rw[eq_comm];have:n=b*(n.tdiv b-1)+(n.tmod b+b):=by rw[Int.mul_sub];omega
 rw[this,yI _ _ Qa,yJ Qa Qa];rw[<-this];omega
def Q8(n b:Int)(a:0<b)(h:0<=n.tmod b):n.tdiv b=n / b:=by
 have j:=yH n b;have p:=Int.tmod_lt_of_pos n a;rw[eq_comm];have:n=b*(n.tdiv b)+(n.tmod b):=Qa
 rw[this,yI _ _ Qa,yJ Qa Qa];rw[<-this];omega
def U0(c:Int):Bool:=(decide (97<=c)&&decide (c<=122))||(decide (65<=c)&&decide (c<=90))
def bB(i:Nat)(c:Int):Bool:=U0 c||(decide (i≠0)&&(decide (c=45)||(decide (48<=c)&&decide (c<=57))))
def eR(l:List UInt8):Bool:=(List.range l.length).all fun i=>bB i ((l.getD i 0).toNat:Int)
def c6(l:List UInt8):Bool:=decide (1<=l.length)&&decide (l.length<=12)&&eR l
def yP(l:List UInt8)(h:∀j,j<l.length->bB j ((l.getD j 0).toNat:Int)=true):eR l=true:=by unfold eR;rw[bJ];intro j p;exact h j (y0.1 p)
def RA(l:List UInt8)(j:Nat)(p:j<l.length)(h:bB j ((l.getD j 0).toNat:Int)=false):eR l=false:=by unfold eR;rw[List.all_eq_false];exact⟨j,y0.2 p,by rw[h];decide⟩
def tZ{c:UInt8} (h:Hid (∀j,j<k->bB j ((l.getD j 0).toNat:Int)=true))(q:Hid (l.getD k 0=c))(p:bB k (c.toNat:Int)=true):Hid (∀j,j<k+1->bB j ((l.getD j 0).toNat:Int)=true):=by
 intro j u;by_cases e:j=k;·subst e;rw[q.out];exact p
 .exact h.out j Qa
def uA{n:Nat} {c:UInt8} (q:Hid (l.length=n))(p:k<n)(j:Hid (l.getD k 0=c))(h:bB k (c.toNat:Int)=false):c6 l=false:=by unfold c6;rw[RA l k (by rw[q.out];exact p) (by rw[j.out];exact h)];simp
def uB(k:Nat)(c:Int)(h:(97<=c/\c<=122)∨(65<=c/\c<=90)∨(k≠0/\(c=45∨(48<=c/\c<=57)))):bB k c=true:=by unfold bB U0;simp only[dU,aY,z1];omega
def uC(k:Nat)(c:Int)(h:¬((97<=c/\c<=122)∨(65<=c/\c<=90)∨(k≠0/\(c=45∨(48<=c/\c<=57))))):bB k c=false:=by rw[<-Bool.not_eq_true];unfold bB U0;simp only[dU,aY,z1];omega
def RB(l:List UInt8)(n:Nat)(j:l.length=n)(h:eR l=true):c6 l=(!l.isEmpty&&decide ((n:Int)<=12)):=by unfold c6;rw[h,mV,<-j];cases l<;>simp;omega
def bW{a b:Bool} (h:a=b):Ending.returned a=.returned b:=by rw[h]
abbrev _root_.QB(w x:World):Prop:=Below w.heap.size w x
abbrev _root_.Qt(w:World)(v:Value)(e:Ending)(x:World):Prop:=e=.returned v/\Below w.heap.size w x
def lS(s:ByteArray)(w:World)(b:s.size<=9223372036854775807):Calls prog 45 #[.string s] w (Qt w (c6 s.data.toList)):=by
  have q:=fun W:World=>Lib.run_convert_string_bytes (P:=prog) W 9 134 5 s underlying9 underlying134 underlying5;have H:Hid (QB w (Lib.bytesWorld w 5 s)):=⟨rfl,rfl,rfl,by rw[yK];omega,fun k I=>yL w 5 s k I⟩;have h:Hid (s.data.toList.length=s.size):=by simp[Hid]
  go_enter func45,ntmps45;go_wp2;clear q;go_loop [9] (fun i=>∃k:Nat,k<=s.size/\i=.int .i64 k/\Hid (∀j,j<k->bB j ((s.data.toList.getD j 0).toNat:Int)=true))(fun i=>s.size-(intOf i).toNat);case atStart=>exact⟨0,e6 _,rfl,fun j F=>Qa⟩
  case round=>
    obtain⟨k,I,rfl,z⟩:=hrel;by_cases y:k<s.size
    . obtain⟨c,D⟩:∃c:UInt8,s.data.toList.getD k 0=c:=⟨_,rfl⟩;have p:=Lib.bytesWorld_cell w 5 s k y;rw[D]at p;have u:=i' D;clear D;have J:(0:Int)<=(c.toNat:Int):=Qa
      go_wp2;all_goals first
        |(exfalso;simp at*;omega)
        | (go_round;case rel=>exact⟨k+1,Qa,Qj,tZ z u (uB _ _ (by simp at*;omega))⟩
           case measure=>simp[intOf];omega)|(go_ret;exact⟨bW (uA (k:=k) h y u (uC _ _ (by simp at*;omega))).symm,H.out⟩)
    . have G:k=s.size:=Qa
      subst G;by_cases L:s.toList=[];all_goals go_wp2;go_ret;refine⟨bW ?_,H.out⟩;have E:eR s.data.toList=true:=yP _ (fun j F=>z.out j (by rw[h.out]at F;exact F));rw[RB _ _ h.out E,<-ByteArray.toList_eq]<;>simp[L]
end Go.Proofs
namespace Go.Proofs
open Go.RowKit
variable {w:World} {P:Program} {f:FuncId} {args:Array Value} {v:Value} {a:Act} {id:Nat} {Q:Exit->Act->World->Prop} {l:List Oper}
section
variable {P:Program} {ops:Array Oper} {md:Region.Mode} {C:World->Prop}
def lT(P:Program)(md:Region.Mode)(ops:Array Oper)(C:World->Prop)(n:Nat)(L:Array Bool->Act->Prop):Nat->Array Bool->Act->Prop|0,listed,a=>L listed a|f+1,listed,a=>Region.ready md ops listed≠[]/\∀i∈Region.ready md ops listed,i<n/\qOp P ops C i (lT P md ops C n L f (listed.setIfInBounds i true)) a
def HS{n g:Nat} {L:Array Bool->Act->Prop} {Q':Exit->Act->World->Prop} (b:∀j a w,C w->L j a->wpAny P md ops Q' g j a w):∀(f:Nat)(j:Array Bool)(a:Act)(w:World),C w->lT P md ops C n L f j a->wpAny P md ops Q' (f+g) j a w|0,j,a,w,hw,h=>by rw[w0];exact b _ _ _ hw h|f+1,j,a,w,hw,h=>by rw[show f+1+g=(f+g)+1 by omega];exact⟨fun y=>absurd y h.1,fun i c=>wpOp_of_qOp hw (fun q d p u=>HS b f _ q d p u) (h.2 i c).2⟩
def RD{n i:Nat} {R:Oper} {v:Value} {L:Array Bool->Act->Prop} (g:ops[i]?=some R)(G:∀(j:Nat)(o:Oper) cs b,ops[j]?=some o->o.op≠.select cs b)(t:Region.sinkB md ops n=true)(r:Region.chainB md ops n=true)(s:n<ops.size)(U:i<n)(I:∀p a,L p a->∀j∈Region.ready md ops p,n<=j):∀(f:Nat)(p:Array Bool)(a:Act),HeadInv md ops n p->(∀j O,ops[j]?=some O->j≠i->p.getD j true=false->(∀e∈O.after,Region.binds md e=true->e.on≠i)->R.apart ops O=true)->i∈Region.ready md ops p->YieldsIn P ops C R v a->lT P md ops C n L f (p.setIfInBounds i true) (a.put R.dst v)->lT P md ops C n L (f+1) p a:=by intro f;induction f with
 |zero=>
  intro p a E _ D d H;refine⟨fun h=>(by rw[h]at D;cases D),fun j J=>?_⟩;have z:j<n:=by
   rcases gK j n with h|h;·exact h
   .exact absurd J (tail_waits t r s E _ i rfl U (fQ.1 D).1 j h)
  refine⟨z,?_⟩;by_cases q:j=i;·subst q;exact d.qOp g H
  .have:=I _ _ H j (ready_mono J q);omega|succ f ih=>
  intro p a E u D d H;refine⟨fun h=>(by rw[h]at D;cases D),fun j J=>?_⟩;have z:j<n:=by
   rcases gK j n with h|h;·exact h
   .exact absurd J (tail_waits t r s E _ i rfl U (fQ.1 D).1 j h)
  refine⟨z,?_⟩;by_cases q:j=i;·subst q;exact d.qOp g H
  .have c:=(H.2 j (ready_mono J q)).2;obtain⟨F,O,N,S⟩:=fQ.1 J;have X:∀e∈O.after,Region.binds md e=true->e.on≠i:=fun e he W A=>by have c:=S e he W;have M:=(fQ.1 D).1;rw[A,getD_both M]at c;cases c
   have T:=qOp_put N (u j O N q F X) (fun cs b=>G i R cs b g) (fun cs b=>G j O cs b N) d c;have y:∀k Z,ops[k]?=some Z->k≠i->(p.setIfInBounds j true).getD k true=false->(∀e∈Z.after,Region.binds md e=true->e.on≠i)->R.apart ops Z=true:=fun k Z hk B Y K=>by
    refine u k Z hk B ?_ K;by_cases V:j=k;·subst V;exact F
    .rw[gM true V]at Y;exact Y
   refine qOp_mono (fun x m=>ih (p.setIfInBounds j true) x (E.set J z) y (ready_mono D (hV q)) m.1 ?_) T;rw[Array.setIfInBounds_comm _ _ q];exact m.2
def HT{n g:Nat} {E:Act->Prop} (q:Region.noSelect ops=true)(b:Region.sinkB md ops n=true)(H:Region.chainB md ops n=true)(I:n<ops.size):∀(l:List Oper)(k:Nat)(p:Array Bool)(a:Act),(∀j,j<l.length->l[j]?=ops[k+j]?)->k+l.length=n->HeadInv md ops n p->Region.lexHead md ops g l.length k p=true->wpQuiet P ops C E l a->lT P md ops C n (fun p a=>Region.seqB md ops g n p=true/\E a) l.length p a
 |[],k,p,a,_,hk,_,hB,h=>by
  have:k=n:=by simpa using hk
  subst this;exact⟨by simpa [Region.lexHead] using hB,h⟩|o::l,k,p,a,hl,hk,inv,hB,h=>by
  have D:ops[k]?=some o:=by simpa using (hl 0 Qd).symm
  simp only[r3,Region.lexHead,aY]at hB;obtain⟨⟨O,N⟩,F⟩:=hB;have u:k<n:=by simp only[r3]at hk;omega
  have y:k∈Region.ready md ops p:=by simpa using O
  have G:qOp P ops C k (wpQuiet P ops C E l) a:=by unfold qOp;simp only[D];exact h
  obtain⟨v,R,J⟩:=yieldsIn_of_qOp D G;exact RD D (yM q) b H I u (fun z S L=>seqB_ready L.1) l.length p a inv (Region.free_spec D N) y R (HT q b H I l (k+1) _ _ (fun j U=>by have:=hl (j+1) Qk;simpa [s4,aD 1 j] using this) (by simp only[r3]at hk;omega) (inv.set y u) F J)
def RE{id:Nat} {Q:Exit->Act->World->Prop} {a:Act} {w:World} {l:List Oper} (n:Nat)(d:P.follows .mixedOrders=true)(c:Region.lexTailB .any l.toArray n=true)(O:C {w with drawn:=w.drawn+1})(h:wpQuiet P l.toArray C (fun E=>∀b,C b->wpList P l.toArray Q (l.drop n) E b) (l.take n) a):(Code.region id l.toArray true).wp P Q a w:=by
 simp only[Region.lexTailB,aY,z1]at c;obtain⟨⟨⟨⟨z,N⟩,U⟩,R⟩,y⟩:=c;have S:n<l.length:=by simpa using N
 have p:(l.take n).length=n:=Qk
 have u:(l.drop n).length=l.toArray.size-n:=Qd
 have D:HeadInv .any l.toArray n (Array.replicate l.toArray.size false):=⟨Qd,fun j X _ L=>(by rw[HR]at L;cases L),fun t _ V=>getD_in (by simpa using V) (HR _ _)⟩;have H:=HT (C:=C) (P:=P) (md:=.any) (g:=l.toArray.size-n) z U R N (l.take n) 0 _ a (fun j J=>by
  have F:j<n:=by rw[p]at J;exact J
  simp[F]) (by simpa using p) D (by rw[p];exact y) h;refine hK d ?_;have:=HS (Q':=Q) (g:=l.toArray.size-n) (fun q E b G I=>by have:=wpAny_of_seq (md:=.any) (Q':=Q) (l.drop n) n q E b (fun j=>by simp[iM]) (by rw[u];exact I.1) (I.2 b G);rwa [u]at this) _ _ _ _ O H;rw[p,show n+(l.toArray.size-n)=l.toArray.size by omega]at this;exact this
end
structure Grew (w:World) where
 val:World
 ok:QB w val
instance (w:World):Nonempty (Grew w):=⟨⟨w,q' _ w⟩⟩
def Grew.cell(x:Grew w)(b o:Nat)(h:b<w.heap.size):x.val.cell? ⟨b,o,none⟩=w.cell? ⟨b,o,none⟩:=x.ok.cell (p:=⟨b,o,none⟩) h
def Grew.call{x:Grew w} (h:Calls P f args x.val fun e r=>e=.returned v/\Below x.val.heap.size x.val r):Calls P f args x.val fun e j=>e=.returned v/\∃y:Grew w,j=y.val:=h.mono fun _ r ⟨q,p⟩=>⟨q,⟨r,x.ok.trans (p.mono x.ok.size)⟩,rfl⟩
def Zd{x:Grew w} (h:Calls P f args x.val fun e b=>e=.returned v/\x.val=b):Calls P f args x.val fun e j=>e=.returned v/\∃y:Grew w,j=y.val:=h.mono fun _ _ ⟨q,p⟩=>⟨q,x,p.symm⟩
def via{a b:World} (h:QB w a)(j:QB a b):QB w b:=h.trans (j.mono h.size)
def HU{a:World} (h:QB w a)(o:Obj):QB w (a.alloc o):=h.alloc h.size o
def ZB(w:World)(o:Obj):QB w (w.alloc o):=(q' _ _).alloc (h' _) o
def RF(n:Nat)(d:P.follows .mixedOrders=true)(c:Region.lexTailB .any l.toArray n=true)(h:wpQuiet P l.toArray (fun b=>∃x:Grew w,b=x.val) (fun j=>∀x:Grew w,wpList P l.toArray Q (l.drop n) j x.val) (l.take n) a):(Code.region id l.toArray true).wp P Q a w:=by
 refine RE (C:=fun b=>∃x:Grew w,b=x.val) n d c ⟨⟨_,(q' _ w).drew⟩,rfl⟩ ?_;have e:(fun j=>∀b,(∃x:Grew w,b=x.val)->wpList P l.toArray Q (l.drop n) j b)=(fun j=>∀x:Grew w,wpList P l.toArray Q (l.drop n) j x.val):=by funext j;exact propext ⟨fun h x=>h _ ⟨x,rfl⟩,fun h b ⟨x,p⟩=>p▸h x⟩
 rw[e];exact h
def RG(d:P.follows .mixedOrders=true)(c:Region.lexB .any l.toArray=true)(h:wpQuiet P l.toArray (fun b=>∃x:Grew w,b=x.val) (fun j=>∀x:Grew w,Q .normal j x.val) l a):(Code.region id l.toArray true).wp P Q a w:=by
 refine wp_region_quiet (C:=fun b=>∃x:Grew w,b=x.val) d c ⟨⟨_,(q' _ w).drew⟩,rfl⟩ ?_;have e:(fun j=>∀b,(∃x:Grew w,b=x.val)->Q .normal j b)=(fun j=>∀x:Grew w,Q .normal j x.val):=by funext j;exact propext ⟨fun h x=>h _ ⟨x,rfl⟩,fun h b ⟨x,p⟩=>p▸h x⟩
 simp only[e];exact h
def B9(d:World)(n:Nat)(hm:P.follows .mixedOrders=true)(hB:Region.lexTailB .any l.toArray n=true)(hw:QB d w)(h:(∀(x:Grew w)(b o:Nat),b<w.heap.size->x.val.cell? ⟨b,o,none⟩=w.cell? ⟨b,o,none⟩)->Hid (∀x:Grew w,QB d x.val)->wpQuiet P l.toArray (fun r=>∃x:Grew w,r=x.val) (fun p=>∀j,QB w j->QB d j->w.heap.size<=j.heap.size->wpList P l.toArray Q (l.drop n) p j) (l.take n) a):(Code.region id l.toArray true).wp P Q a w:=by
 refine RF n hm hB ?_;have e:(fun p=>∀j,QB w j->QB d j->w.heap.size<=j.heap.size->wpList P l.toArray Q (l.drop n) p j)=(fun p=>∀x:Grew w,wpList P l.toArray Q (l.drop n) p x.val):=by funext p;exact propext ⟨fun h x=>h x.val x.ok (via hw x.ok) x.ok.size,fun h j q _ _=>h ⟨j,q⟩⟩
 rw[<-e];exact h (fun x=>x.cell) (fun x=>via hw x.ok)
def c8(c:World)(r:P.follows .mixedOrders=true)(n:Region.lexB .any l.toArray=true)(d:QB c w)(h:(∀(x:Grew w)(b o:Nat),b<w.heap.size->x.val.cell? ⟨b,o,none⟩=w.cell? ⟨b,o,none⟩)->Hid (∀x:Grew w,QB c x.val)->wpQuiet P l.toArray (fun s=>∃x:Grew w,s=x.val) (fun p=>∀j,QB w j->QB c j->w.heap.size<=j.heap.size->Q .normal p j) l a):(Code.region id l.toArray true).wp P Q a w:=by
 refine RG r n ?_;have e:(fun p=>∀j,QB w j->QB c j->w.heap.size<=j.heap.size->Q .normal p j)=(fun p=>∀x:Grew w,Q .normal p x.val):=by funext p;exact propext ⟨fun h x=>h x.val x.ok (via d x.ok) x.ok.size,fun h j q _ _=>h ⟨j,q⟩⟩
 rw[<-e];exact h (fun x=>x.cell) (fun x=>via d x.ok)
end Go.Proofs
namespace Go.Proofs
open Tryz
open Go.RowKit
def Z6(n b a:Int):Bool:=decide (b<=n)&&decide (n<=a)
def dA(n c b:Int)(w:World):Calls prog 22 #[n,c,b] w fun e d=>e=.returned (Z6 n c b)/\w=d:=by unfold Z6;by_cases h:c<=n<;>by_cases j:n<=b;all_goals go_enter func22,ntmps22;go_wp2;go_ret;simp_all
def T'(n b a:Int)(w:World):Calls prog 9 #[n,b,a] w fun e c=>e=.returned (Z6 n b a)/\w=c:=by unfold Z6;by_cases h:b<=n<;>by_cases j:n<=a;all_goals go_enter func9,ntmps9;go_wp2;go_ret;simp_all
def unl(b:Bool)(n:Int):Int:=if b then 0 else n
def hJ(b:Bool)(n:Int)(w:World):Calls prog 21 #[b,n] w fun e c=>e=.returned (unl b n)/\w=c:=by cases b;all_goals go_enter func21,ntmps21;go_wp2;go_ret;simp_all[unl]
def Z4:List Int->Int|[]=>0|e::l=>if e=0 then Z4 l else e
def yQ(a:List Int):∀k,(∀j,j<k->a.getD j 0=0)->Z4 a=Z4 (a.drop k):=by intro k;induction k generalizing a with|zero=>intro _;simp|succ k ih=>intro h;cases a with|nil=>simp|cons e l=>
   have p:e=0:=by simpa using h 0 Qa
   simp only[Z4,p,Zyl,e5];exact ih l (fun j q=>by simpa using h (j+1) Qa)
def RH(a:List Int)(k:Nat)(p:k<a.length)(h:∀j,j<k->a.getD j 0=0)(b:a.getD k 0≠0):Z4 a=a.getD k 0:=by
 rw[yQ a k h,l4 p];have:a.getD k 0=a[k]:=by simp[p]
 simp only[Z4];rw[Zc9 (by rw[<-this];exact b),this]
def RI(a:List Int)(h:∀j,j<a.length->a.getD j 0=0):Z4 a=0:=by rw[yQ a a.length h];simp[Z4]
def yR(a:List Int)(b:Nat)(w:World)(J:a.length<=100)(F:∀j,j<a.length->w.cell? ⟨b,j,none⟩=some (.int .i64 (a.getD j 0))):Calls prog 19 #[.slice (some b) a.length a.length] w fun e c=>e=.returned (Z4 a)/\w=c:=by
 have y:=i' F;clear F;go_enter func19,ntmps19;go_wp2;go_loop [7] (fun i=>∃k:Nat,k<=a.length/\i=.int .i64 k/\Hid (∀j,j<k->a.getD j 0=0))(fun i=>a.length-(intOf i).toNat);case atStart=>exact⟨0,e6 _,rfl,fun j G=>Qa⟩
 case round=>
  obtain⟨k,I,rfl,E⟩:=hrel;by_cases q:k<a.length
  .have z:=y.out k q;obtain⟨v,D⟩:=Qu (a.getD k 0);rw[D]at z;have h:=i' D;clear D;by_cases p:v=0
   .have H : (v != 0) = false := by simp [p]
    have u:=i' p;clear p;go_wp2;go_round;case rel=>exact⟨k+1,Qa,Qj,fun j G=>by
     by_cases e:j=k;·subst e;rw[h.out];exact u.out
     .exact E.out j Qa⟩
    case measure=>simp[intOf];omega
   .have H : (v != 0) = true := by simp [p]
    go_wp2;go_ret;exact⟨aR (by rw[RH a k q E.out (by rw[h.out];exact p)];exact h.out.symm),rfl⟩
  .go_wp2;go_ret;exact⟨aR (RI a (fun j G=>E.out j Qa)).symm,rfl⟩
def eP(a b:Int)(w:World):Calls prog 19 #[.slice (some w.heap.size) 2 2] (w.alloc (.cells #[a,b] 31)) fun e c=>e=.returned (Z4 [a,b])/\w.alloc (.cells #[a,b] 31)=c:=yR [a,b] w.heap.size _ Qd (fun j h=>by rw[pE _ _ _ _ rfl];match j,h with|0,_=>rfl|1,_=>rfl)
def B0(a b c d:Int)(w:World):Calls prog 19 #[.slice (some w.heap.size) 4 4] (w.alloc (.cells #[a,b,c,d] 31)) fun e f=>e=.returned (Z4 [a,b,c,d])/\w.alloc (.cells #[a,b,c,d] 31)=f:=yR [a,b,c,d] w.heap.size _ Qd (fun j h=>by rw[pE _ _ _ _ rfl];match j,h with|0,_=>rfl|1,_=>rfl|2,_=>rfl|3,_=>rfl)
end Go.Proofs
namespace Go.Proofs
open Go.RowKit
def At{α:Type} (sz:Nat)(cs:α->List Value)(w:World)(A:Option Addr)(l:List α):Prop:=∀k x,l[k]?=some x->∃b o,A=some ⟨b,o,none⟩/\b<w.heap.size/\∀j v,(cs x)[j]?=some v->w.cell? ⟨b,o+k*sz+j,none⟩=some v
def At.below{α:Type} {sz:Nat} {cs:α->List Value} {w w':World} {A:Option Addr} {l:List α} (h:At sz cs w A l)(hb:QB w w'):At sz cs w' A l:=by intro k x D;obtain⟨b,o,u,q,y⟩:=h k x D;exact⟨b,o,u,h8 q hb.size,fun j v z=>(hb.cell (p:=⟨b,o+k*sz+j,none⟩) q).trans (y j v z)⟩
def eqS(a b:ByteArray):Bool:=a.toList==b.toList
variable {b:Nat} {o:Obj} {w:World} {cs:Array Value} {t:TypeId} {f:Nat×Nat} {v0 v1 v2 v3 v4:Value}
def Zx{W j:World} (hb:QB W j)(h:W.heap[b]?=some o):j.heap[b]?=some o:=(hb.block b (cI h)).trans h
def Zz(h:w.heap[b]?=some o)(d:Obj):(w.alloc d).heap[b]?=some o:=(pF w d b (cI h)).trans h
def ZD(h:w.heap[b]?=some o):w.drew.heap[b]?=some o:=h
def ZA(w:World)(o:Obj) {n:Nat} (h:n=w.heap.size):(w.alloc o).heap[n]?=some o:=by subst h;exact Bt w o
def ZC(h:w.heap[b]?=some o) {p:Addr} (hne:b≠p.block)(u:Value):(w.setCell p u).heap[b]?=some o:=(hH w p u b hne).trans h
def fN(h:w.heap[b]?=some (.cells cs t f))(o:Nat):w.cell? ⟨b,o,none⟩=cs[o]?:=by simp[World.cell?,h]
def fO(h:w.heap[b]?=some (.cells cs t))(o:Nat):w.frozen? ⟨b,o,none⟩=false:=by simp[World.frozen?,h]
def ZJ{o:Nat} {j:Array Value} (h:w.heap[b]?=some (.cells cs t f))(u:Value)(y:cs.setIfInBounds o u=j):(w.setCell ⟨b,o,none⟩ u).heap[b]?=some (.cells j t f):=by
 subst y;have p:=cI h;have q:w.heap[b]=.cells cs t f:=by simpa [y1 p] using h
 show (w.heap.modify b _)[b]?=_;rw[y1 (by simpa using p),Array.getElem_modify_self,q];rfl
def ZE(h:w.heap[b]?=some o):b<w.heap.size:=cI h
def bk1(h:w.heap[b]?=some (.cells #[v0] t)):w.cell? b=some v0/\w.frozen? ⟨b,0,none⟩=false/\b<w.heap.size:=⟨fN h 0,fO h 0,ZE h⟩
def bk2(h:w.heap[b]?=some (.cells #[v0,v1] t)):w.cell? b=some v0/\w.cell? ⟨b,1,none⟩=some v1/\w.frozen? ⟨b,0,none⟩=false/\w.frozen? ⟨b,1,none⟩=false/\b<w.heap.size:=⟨fN h 0,fN h 1,fO h 0,fO h 1,ZE h⟩
def bk3(h:w.heap[b]?=some (.cells #[v0,v1,v2] t)):w.cell? b=some v0/\w.cell? ⟨b,1,none⟩=some v1/\w.cell? ⟨b,2,none⟩=some v2/\w.frozen? ⟨b,0,none⟩=false/\w.frozen? ⟨b,1,none⟩=false/\w.frozen? ⟨b,2,none⟩=false/\b<w.heap.size:=⟨fN h 0,fN h 1,fN h 2,fO h 0,fO h 1,fO h 2,ZE h⟩
def bk4(h:w.heap[b]?=some (.cells #[v0,v1,v2,v3] t)):w.cell? b=some v0/\w.cell? ⟨b,1,none⟩=some v1/\w.cell? ⟨b,2,none⟩=some v2/\w.cell? ⟨b,3,none⟩=some v3/\w.frozen? ⟨b,0,none⟩=false/\w.frozen? ⟨b,1,none⟩=false/\w.frozen? ⟨b,2,none⟩=false/\w.frozen? ⟨b,3,none⟩=false/\b<w.heap.size:=⟨fN h 0,fN h 1,fN h 2,fN h 3,fO h 0,fO h 1,fO h 2,fO h 3,ZE h⟩
def bk5(h:w.heap[b]?=some (.cells #[v0,v1,v2,v3,v4] t)):w.cell? b=some v0/\w.cell? ⟨b,1,none⟩=some v1/\w.cell? ⟨b,2,none⟩=some v2/\w.cell? ⟨b,3,none⟩=some v3/\w.cell? ⟨b,4,none⟩=some v4/\w.frozen? ⟨b,0,none⟩=false/\w.frozen? ⟨b,1,none⟩=false/\w.frozen? ⟨b,2,none⟩=false/\w.frozen? ⟨b,3,none⟩=false/\w.frozen? ⟨b,4,none⟩=false/\b<w.heap.size:=⟨fN h 0,fN h 1,fN h 2,fN h 3,fN h 4,fO h 0,fO h 1,fO h 2,fO h 3,fO h 4,ZE h⟩
def bk7{j p:Value} (h:w.heap[b]?=some (.cells #[v0,v1,v2,v3,v4,j,p] t)):w.cell? b=some v0/\w.cell? ⟨b,1,none⟩=some v1/\w.cell? ⟨b,2,none⟩=some v2/\w.cell? ⟨b,3,none⟩=some v3/\w.cell? ⟨b,4,none⟩=some v4/\w.cell? ⟨b,5,none⟩=some j/\w.cell? ⟨b,6,none⟩=some p/\w.frozen? ⟨b,0,none⟩=false/\w.frozen? ⟨b,1,none⟩=false/\w.frozen? ⟨b,2,none⟩=false/\w.frozen? ⟨b,3,none⟩=false/\w.frozen? ⟨b,4,none⟩=false/\w.frozen? ⟨b,5,none⟩=false/\w.frozen? ⟨b,6,none⟩=false/\b<w.heap.size:=⟨fN h 0,fN h 1,fN h 2,fN h 3,fN h 4,fN h 5,fN h 6,fO h 0,fO h 1,fO h 2,fO h 3,fO h 4,fO h 5,fO h 6,ZE h⟩
def e9{P:Program} {c:Code} {Q:Exit->Act->World->Prop} {a:Act} {w:World} (h:∀W,W=w->c.wp P Q a W):c.wp P Q a w:=h w rfl
variable {T:TypeId} {W:World} {B k:Nat} {l:List Int}
def h9(l:List Int):Array Value:=(l.map (Value.int .i64)).toArray
def ZO(T:TypeId)(W:World)(B:Nat)(l:List Int):Prop:=W.heap[B]?=some (.cells (h9 l) T)
def yS(l:List Int):(h9 l).size=l.length:=by simp[h9]
def U1(l:List Int)(k:Nat):(h9 l)[k]?=l[k]?.map (Value.int .i64):=by simp[h9]
def Pl(l:List Int)(k:Nat)(x:Int):(h9 l).setIfInBounds k (.int .i64 x)=h9 (l.set k x):=by
 apply cF;intro j;rw[U1,bD,bC];simp only[yS,U1];by_cases h:k=j
 .subst h;by_cases p:k<l.length;·simp[p]
  .simp[p]
 .simp[h]
def ZO.load(h:ZO T W B l) {x:Int} (m:l[k]?=some x):W.cell? ⟨B,k,none⟩=some (.int .i64 x):=by unfold ZO at h;unfold World.cell?;rw[h];simp[U1,m]
def ZO.loadD(h:ZO T W B l)(j:k<l.length):W.cell? ⟨B,k,none⟩=some (.int .i64 (l.getD k 0)):=by rw[h6,k2 j];exact h.load (k2 j)
def ZO.frozen(h:ZO T W B l)(k:Nat):W.frozen? ⟨B,k,none⟩=false:=by unfold ZO at h;unfold World.frozen?;rw[h];simp
def ZO.size(h:ZO T W B l):B<W.heap.size:=(bO.1 h).1
def ZO.store(h:ZO T W B l)(k:Nat)(x:Int):ZO T (W.setCell ⟨B,k,none⟩ (.int .i64 x)) B (l.set k x):=by have j:=h.size;unfold ZO at h |-;simp only[World.setCell];rw[iT,r4 rfl,h];simp[Pl]
def ZO.other(h:ZO T W B l)(p:Addr)(v:Value)(hp:p.block≠B):ZO T (W.setCell p v) B l:=by unfold ZO at h |-;rw[<-h];exact hH W p v B (fun e=>hp e.symm)
def ZO.alloc(h:ZO T W B l)(o:Obj):ZO T (W.alloc o) B l:=by have:=h.size;unfold ZO at h |-;exact(pF W o B this).trans h
def ZO.below{j:World} (h:ZO T W B l)(hb:QB W j):ZO T j B l:=by have:=h.size;unfold ZO at h |-;exact(hb.block B this).trans h
def ZO.new(W:World)(l:List Int):ZO T (W.alloc (.cells (h9 l) T)) W.heap.size l:=ZA W _ rfl
def RJ(n:Nat):madeCells #[.int .i64 0] n=h9 (List.replicate n 0):=by
 apply cF;intro j;rw[U1];by_cases h:j<n;·simp[madeCells,h,Nat.mod_one]
 .simp[madeCells,h]
end Go.Proofs
namespace Go.Proofs
def cmb:Nat->Nat->Nat->List (List Nat)|_,_,0=>[[]]|_,0,_+1=>[]|a,len+1,k+1=>(cmb (a+1) len k).map (a::·)++cmb (a+1) len (k+1)
def kH:Nat->List Nat->Option (List Nat)|_,[]=>none|m,x::t=>match kH (m+1) t with|some t'=>some (x::t')|none=>if x=m then none else some (List.range' (x+1) (t.length+1))
def E6:∀(a j k:Nat),j<k->cmb a j k=[]|_,_,0,h=>by omega|_,0,_+1,_=>rfl|a,j+1,k+1,h=>by simp only[cmb];rw[E6 (a+1) j k Qa,E6 (a+1) j (k+1) Qa];rfl
def uD:∀(a j k:Nat),k<=j->(cmb a j k)[0]?=some (List.range' a k)|_,_,0,_=>by simp[cmb]|_,0,k+1,h=>by omega|a,j+1,k+1,h=>by have:=uD (a+1) j k Qa;simp only[cmb];rw[aM (by rw[R'];exact(y'.1 this).1),k3,this];rfl
def gQ:∀(a j k:Nat),∀l∈cmb a j k,l.length=k
 |_,_,0,l,h=>by simp[cmb]at h;simp[h]|_,0,k+1,l,h=>by cases h|a,j+1,k+1,l,h=>by
  simp only[cmb,C1,L']at h;rcases h with⟨t,p,rfl⟩|h;·rw[r3,gQ (a+1) j k t p]
  .exact gQ (a+1) j (k+1) l h
def FU:∀(a j k m:Nat),m+k=a+j->∀i l,(cmb a j k)[i]?=some l->kH m l=(cmb a j k)[i+1]?
 |a,j,0,m,_,i,l,h=>by simp only[cmb]at h |-;cases i with|zero=>simp at h;subst h;rfl|succ i=>simp at h
 |_,0,k+1,m,_,i,l,h=>by simp[cmb]at h|a,j+1,k+1,m,hm,i,l,h=>by
  have u:=gQ (a+1) j k;simp only[cmb]at h |-;by_cases b:i<(cmb (a+1) j k).length;·rw[aM (by rw[R'];exact b),k3]at h;obtain⟨t,E,rfl⟩:=C2.1 h;have G:=FU (a+1) j k (m+1) Qa i t E;have z:t.length=k:=u t (n2 E);unfold kH;rw[G];cases y:(cmb (a+1) j k)[i+1]? with
   |some t'=>rw[aM (by rw[R'];exact(y'.1 y).1),k3,y];rfl|none=>
    have q:=zA.1 y;rw[aO (by rw[R'];exact q),R',show i+1-(cmb (a+1) j k).length=0 by omega];by_cases p:a=m;·rw[r4 p,E6 (a+1) j (k+1) Qa];rfl
    .have F:k+1<=j:=by
      rcases gK j k with D|D;·rw[E6 (a+1) j k D]at b;cases b
      .omega
     rw[Zc9 p,uD (a+1) j (k+1) F,z]
  .rw[aO (by rw[R'];omega),R']at h;rw[aO (by rw[R'];omega),R',show i+1-(cmb (a+1) j k).length=(i-(cmb (a+1) j k).length)+1 by omega];exact FU (a+1) j (k+1) m Qa _ l h
def Asc(a b:Nat):List Nat->Prop|[]=>True|x::t=>a<=x/\x<b/\Asc (x+1) b t
def Asc.mono{b:Nat}:∀{l:List Nat} {a a':Nat},a'<=a->Asc a b l->Asc a' b l|[],_,_,_,_=>trivial|_::_,_,_,h,hl=>⟨w7 h hl.1,hl.2⟩
def Asc.lt{b:Nat}:∀{l:List Nat} {a:Nat},Asc a b l->∀x∈l,a<=x/\x<b
 |[],_,_,_,h=>by cases h|y::t,a,hl,x,h=>by
  rcases ZA1.1 h with rfl|h;·exact⟨hl.1,hl.2.1⟩
  .have:=Asc.lt hl.2.2 x h;have:=hl.1;exact⟨Qa,Qa⟩
def eS:∀(a j k:Nat),∀l∈cmb a j k,Asc a (a+j) l
 |_,_,0,l,h=>by simp[cmb]at h;subst h;trivial|_,0,k+1,l,h=>by cases h|a,j+1,k+1,l,h=>by
  simp only[cmb,C1,L']at h;rcases h with⟨t,p,rfl⟩|h;·have:=eS (a+1) j k t p;rw[show a+1+j=a+(j+1)by omega]at this;exact⟨h' _,Qa,this⟩
  .have:=eS (a+1) j (k+1) l h;rw[show a+1+j=a+(j+1)by omega]at this;exact this.mono Qa
def kW:∀(a j:Nat)(l:List Nat),Asc a (a+j) l->l∈cmb a j l.length
 |a,j,[],_=>by cases j<;>simp[cmb]|a,0,x::t,h=>by have:=h.1;have:=h.2.1;omega|a,j+1,x::t,h=>by
  rw[r3];simp only[cmb,C1,L'];by_cases p:x=a;·subst p;exact .inl ⟨t,kW (x+1) j t (by have:=h.2.2;rwa [show x+(j+1)=x+1+j by omega]at this),rfl⟩
  .right;have:=kW (a+1) j (x::t) ⟨by have:=h.1;omega,by have:=h.2.1;omega,by have:=h.2.2;rwa [show a+(j+1)=a+1+j by omega]at this⟩;rwa [r3]at this
def uE:∀(m:Nat)(l:List Nat),(∀i x,l[i]?=some x->x=m+i)->kH m l=none|_,[],_=>rfl|m,x::t,h=>by unfold kH;rw[uE (m+1) t (fun i y j=>by have:=h (i+1) y j;omega)];exact r4 (h 0 x rfl)
def HV:∀(m:Nat)(l:List Nat) (j x:Nat),l[j]?=some x->x≠m+j->(∀i y,j<i->l[i]?=some y->y=m+i)->kH m l=some (l.take j++List.range' (x+1) (l.length-j))|_,[],j,x,h,_,_=>by simp at h|m,y::t,0,x,h,hx,hl=>by simp at h;subst h;unfold kH;rw[uE (m+1) t (fun i z p=>by have:=hl (i+1) z Qa p;omega)];simp only;rw[Zc9 (by simpa using hx)];simp|m,y::t,j+1,x,h,hx,hl=>by unfold kH;rw[HV (m+1) t j x (by simpa using h) Qa (fun i z a p=>by have:=hl (i+1) z Qa (by simpa using p);omega)];simp
def pop:Nat->Nat->Nat|0,_=>0|k+1,s=>pop k s+(s>>>k)%2
def eC(f:Nat->Nat->Int)(M:List Int)(a set:Nat):Nat->Int->Int->Int|0,acc,_=>acc|c+1,acc,sg=>if (set>>>c)%2=0 then eC f M a set c acc sg else eC f M a set c (if M.getD (set-2^c) 0=0 then acc else acc+sg*f a c*M.getD (set-2^c) 0) (-sg)
def eK(f:Nat->Nat->Int)(n:Nat)(M:List Int)(set:Nat):Int:=eC f M (pop n set-1) set n 0 1
def dpM(f:Nat->Nat->Int)(n:Nat):Nat->List Int|0=>[1]|s+1=>dpM f n s++[eK f n (dpM f n s) (s+1)]
def Z0(f:Nat->Nat->Int)(n:Nat):Int:=(dpM f n (2^n-1)).getD (2^n-1) 0
def X1(f:Nat->Nat->Int)(n:Nat):∀s,(dpM f n s).length=s+1|0=>rfl|s+1=>by simp[dpM,X1 f n s]
def RL(m a x:Int):(if m=0 then a else a+x*m)=a+x*m:=by
 split;·rename_i h;rw[h];omega
 .rfl
def minorD(f:Nat->Nat->Int)(M:List Int)(a set:Nat):Nat->Int->Int->Int|0,acc,_=>acc|c+1,acc,sg=>if (set>>>c)%2=0 then minorD f M a set c acc sg else minorD f M a set c (acc+sg*f a c*M.getD (set-2^c) 0) (-sg)
def FV(f:Nat->Nat->Int)(M:List Int)(a set:Nat):∀c b h,eC f M a set c b h=minorD f M a set c b h|0,_,_=>rfl|c+1,b,h=>by unfold eC minorD;rw[FV f M a set c,FV f M a set c,RL]
def dpN(f:Nat->Nat->Int)(n:Nat):Nat->List Int|0=>[1]|s+1=>dpN f n s++[minorD f (dpN f n s) (pop n (s+1)-1) (s+1) n 0 1]
def iN(f:Nat->Nat->Int)(n:Nat):∀s,dpM f n s=dpN f n s|0=>rfl|s+1=>by unfold dpM dpN eK;rw[iN f n s,FV]
def d2(f:Nat->Nat->Int)(i j:Nat):Int:=f 0 i*f 1 j-f 0 j*f 1 i
def d3(f:Nat->Nat->Int)(i j k:Nat):Int:=f 2 k*d2 f i j-f 2 j*d2 f i k+f 2 i*d2 f j k
def d4(f:Nat->Nat->Int)(i j k l:Nat):Int:=f 3 l*d3 f i j k-f 3 k*d3 f i j l+f 3 j*d3 f i k l-f 3 i*d3 f j k l
def d5(f:Nat->Nat->Int)(i j k l m:Nat):Int:=f 4 m*d4 f i j k l-f 4 l*d4 f i j k m+f 4 k*d4 f i j l m-f 4 j*d4 f i k l m+f 4 i*d4 f j k l m
def detP1(f:Nat->Nat->Int):Z0 f 1=f 0 0:=by simp[Z0,iN,dpN,minorD,pop]
def detP2(f:Nat->Nat->Int):Z0 f 2=d2 f 0 1:=by simp[Z0,iN,dpN,minorD,pop,d2];grind
def detP3(f:Nat->Nat->Int):Z0 f 3=d3 f 0 1 2:=by simp[Z0,iN,dpN,minorD,pop,d3,d2];grind
def detP4(f:Nat->Nat->Int):Z0 f 4=d4 f 0 1 2 3:=by simp[Z0,iN,dpN,minorD,pop,d4,d3,d2];grind
def mY(f:Nat->Nat->Int):Z0 f 5=d5 f 0 1 2 3 4:=by simp[Z0,iN,dpN,minorD,pop,d5,d4,d3,d2];grind
def repl(f:Nat->Nat->Int)(b:Nat->Int)(c:Nat)(i j:Nat):Int:=if j=c then b i else f i j
def yT(f:Nat->Nat->Int)(b:Nat->Int):f 0 0*Z0 (repl f b 0) 1=b 0*Z0 f 1:=by simp[detP1,repl];grind
def yU(f:Nat->Nat->Int)(b:Nat->Int)(i:Nat)(a:i<2):f i 0*Z0 (repl f b 0) 2+f i 1*Z0 (repl f b 1) 2=b i*Z0 f 2:=by simp[detP2,repl,d2];rcases i with _|_|i<;>first|grind|omega
def yV(f:Nat->Nat->Int)(b:Nat->Int)(i:Nat)(a:i<3):f i 0*Z0 (repl f b 0) 3+f i 1*Z0 (repl f b 1) 3+f i 2*Z0 (repl f b 2) 3=b i*Z0 f 3:=by simp[detP3,repl,d3,d2];rcases i with _|_|_|i<;>first|grind|omega
def yW(f:Nat->Nat->Int)(b:Nat->Int)(i:Nat)(a:i<4):f i 0*Z0 (repl f b 0) 4+f i 1*Z0 (repl f b 1) 4+f i 2*Z0 (repl f b 2) 4+f i 3*Z0 (repl f b 3) 4=b i*Z0 f 4:=by simp[detP4,repl,d4,d3,d2];rcases i with _|_|_|_|i<;>first|grind|omega
def yX(f:Nat->Nat->Int)(b:Nat->Int)(i:Nat)(a:i<5):f i 0*Z0 (repl f b 0) 5+f i 1*Z0 (repl f b 1) 5+f i 2*Z0 (repl f b 2) 5+f i 3*Z0 (repl f b 3) 5+f i 4*Z0 (repl f b 4) 5=b i*Z0 f 5:=by simp[mY,repl,d5,d4,d3,d2];rcases i with _|_|_|_|_|i<;>first|grind|omega
abbrev Ex:=List Int×Int
def entR(r:List (List Int))(i j:Nat):Int:=(r.getD i []).getD j 0
def colF(r:List (List Int))(h:Option Nat)(i c:Nat):Int:=entR r i (if h=some c then r.length else c)
def Z3(r:List (List Int))(h:Option Nat):Int:=Z0 (colF r h) r.length
def x6(d:Int):Int:=if d<0 then -1 else 1
def D9(r:List (List Int)):Option (List Int×Int):=if Z3 r none=0 then none else some ((List.range r.length).map fun i=>x6 (Z3 r none)*Z3 r (some i),x6 (Z3 r none)*Z3 r none)
def dotL:List Int->List Int->Int|a::x,b::y=>a*b+dotL x y|_,_=>0
def putsL:List Ex->List Int->Nat->Int|x::es,w::W,k=>w*x.1.getD k 0+putsL es W k|_,_,_=>0
def spentL:List Ex->List Int->Int|x::es,w::W=>w*x.2+spentL es W|_,_=>0
def gcdL(g:Nat):List Int->Nat|[]=>g|n::l=>gcdL (Nat.gcd g n.natAbs) l
def zerosL(np:Nat)(l:List Nat):List Nat:=l.filter (·<np)
def tightL(np:Nat)(l:List Nat):List Nat:=(l.filter (np<=·)).map (· - np)
def hY(n i:Nat):List Int:=(List.range n).map fun j=>if j=i then 1 else 0
def c9(e:Nat)(d:List Ex)(z t:List Nat):List (List Int):=List.replicate (e+1) 1::(z.map (fun i=>hY (e+1) i)++t.map fun i=>(d.getD i default).1++[(d.getD i default).2])
def A'(np:Nat)(d:List Ex)(z t:List Nat):Option (List Int×Int):=match D9 (c9 np d z t)with|none=>none|some (l,den)=>if l.any (·<0)then none else if d.any (fun x=>!decide (dotL x.1 l<=x.2*den))then none else some (l.map (· / (gcdL 0 (den::l):Int)),den / (gcdL 0 (den::l):Int))
def e3(es:List Ex)(t:List Nat)(k:Nat)(w:Int):List Int:=1::(t.map (fun i=>-((es.getD i default).1.getD k 0))++[w])
def proofRows(es:List Ex)(z t:List Nat):Nat->List Int->List (List Int)|_,[]=>[]|k,w::ws=>if k∈z then proofRows es z t (k+1) ws else e3 es t k w::proofRows es z t (k+1) ws
def putW(l:List Int):Nat->List Nat->List Int->List Int|_,[],W=>W|k,i::t,W=>putW l (k+1) t (W.set i (l.getD (k+1) 0))
def F2(es:List Ex)(d h:Int)(W:List Int):Nat->List Int->Bool|_,[]=>true|k,w::ws=>decide (h<=w*d+putsL es W k)&&F2 es d h W (k+1) ws
structure Prf where
 den:Int
 lev:Int
 W:List Int deriving Inhabited
def H3(es:List Ex)(d:List Int)(z t:List Nat):Option Prf:=match D9 (proofRows es z t 0 d)with|none=>none|some (l,den)=>if (List.range t.length).any (fun k=>l.getD (k+1) 0<0)then none else let W:=putW l 0 t (List.replicate es.length 0);if F2 es den (l.getD 0 0) W 0 d then let g:Int:=(gcdL 0 (den::l.getD 0 0::W):Int);some {den:=den / g,lev:=l.getD 0 0 / g,W:=W.map (· / g)} else none
def z8(np:Nat)(a:List Ex)(b:List Int)(l:List Nat):Option (List Int×Int×Prf):=match H3 a b (zerosL np l) (tightL np l)with|none=>none|some p=>match A' np a (zerosL np l) (tightL np l)with|none=>none|some (m,d)=>some (m,d,p)
def solvedL(np:Nat) (es:List Ex) (ws:List Int):Option (List Int×Int×Prf):=(cmb 0 (np+es.length) (np-1)).findSome? (z8 np es ws)
def RM(f:Nat->Nat->Int)(b:Nat->Int)(n:Nat)(h:n<=5)(i:Nat)(a:i<n):((List.range n).map fun c=>f i c*Z0 (repl f b c) n).sum=b i*Z0 f n:=by
 rcases n with _|_|_|_|_|_|n;·omega
 .obtain rfl:i=0:=Qa
  simpa using yT f b
 .simpa [cM] using yU f b i a
 .simpa [cM,FT] using yV f b i a
 .simpa [cM,FT] using yW f b i a
 .simpa [cM,FT] using yX f b i a
 .omega
def RN(r:List (List Int)) (c:Nat):colF r (some c)=repl (colF r none) (fun i=>entR r i r.length) c:=by
 funext i j;unfold colF repl;by_cases h:j=c;·subst h;simp
 .have:¬(c=j):=fun e=>h e.symm;simp[this,h]
def HW(a:List Int)(g:Nat->Int):∀(n:Nat)(a:List Int)(g:Nat->Int),n<=a.length->dotL a ((List.range n).map g)=((List.range n).map fun c=>a.getD c 0*g c).sum|0,a,g,_=>by cases a<;>simp[dotL]|n+1,[],g,h=>by simp at h|n+1,x::a,g,h=>by rw[pG];simp only[p1,dN,dotL,aF,hE];have:=HW a g n a (g ∘ Nat.succ) (by simpa using h);rw[show g ∘ Nat.succ=g ∘ Nat.succ from rfl]at this;rw[this];rfl
def Sp{r:List (List Int)} {l:List Int} {d:Int} (h:D9 r=some (l,d))(z:r.length<=5)(D:∀b∈r,b.length=r.length+1):0<d/\l.length=r.length/\∀b∈r,dotL b l=b.getD r.length 0*d:=by
 unfold D9 at h;split at h;·cases h
 rename_i E;obtain⟨rfl,rfl⟩:_/\_:=by simpa using h
 refine⟨?_,Qd,fun b j=>?_⟩;·unfold x6;split<;>omega
 .obtain⟨i,e,rfl⟩:=gZ j;have p:=RM (colF r none) (fun i=>entR r i r.length) r.length z i e;rw[HW [] (fun _=>0) _ _ _ (by rw[D _ j];omega)];have q:∀c,(colF r none i c)=r[i].getD c 0:=fun c=>by simp[colF,entR,h6,k2 e]
  have u:entR r i r.length=r[i].getD r.length 0:=by simp[entR,h6,k2 e]
  have y:∀c,Z0 (repl (colF r none) (fun i=>entR r i r.length) c) r.length=Z3 r (some c):=fun c=>by unfold Z3;rw[RN]
  simp only[q,u,y]at p;have:((List.range r.length).map fun c=>r[i].getD c 0*(x6 (Z3 r none)*Z3 r (some c))).sum=x6 (Z3 r none)*((List.range r.length).map fun c=>r[i].getD c 0*Z3 r (some c)).sum:=by generalize List.range r.length=L;induction L with
   |nil=>simp|cons x L ih=>simp only[p1,aF,ih];grind
  rw[this,p];show x6 _*(_*Z3 r none)=_;grind
open Tryz
open Go.RowKit
variable {w:World} {A:Option Addr}
def Zc(x:Int):List Value:=[.int .i64 x]
structure IR where
 A:Option Addr
 c:Nat
 l:List Int
def IR.cs(x:IR):List Value:=[.slice x.A x.l.length x.c]
def h3(w:World)(A:Option Addr)(a:List IR):Prop:=At 1 IR.cs w A a/\∀x∈a,At 1 Zc w x.A x.l
def h3.below{w':World} {d:List IR} (h:h3 w A d)(hb:QB w w'):h3 w' A d:=⟨h.1.below hb,fun x j=>(h.2 x j).below hb⟩
def B5(r:List (List Int))(q:Int)(i c:Nat):Int:=entR r i (if (c:Int)=q then r.length else c)
def h3.cell{f:List IR} (h:h3 w A f) {i j:Nat} {x:IR} (d:f[i]?=some x)(u:j<x.l.length):∃b o p o2,A=some ⟨b,o,none⟩/\x.A=some ⟨p,o2,none⟩/\w.cell? ⟨b,o+i,none⟩=some (.slice (some ⟨p,o2,none⟩) x.l.length x.c)/\w.cell? ⟨p,o2+j,none⟩=some (.int .i64 (x.l.getD j 0))/\entR (f.map IR.l) i j=x.l.getD j 0:=by
 obtain⟨b,o,y,-,z⟩:=h.1 i x d;obtain⟨p,o2,hA2,-,q⟩:=h.2 x (n2 d) j _ (k2 u);refine⟨b,o,p,o2,y,hA2,?_,?_,?_⟩;·have:=z 0 _ rfl;rw[hA2]at this;simpa using this
 .have:=q 0 _ rfl;rw[h6,k2 u];simpa using this
 .simp[entR,h6,d]
def RO(A:Option Addr)(d:List IR)(c n:Nat)(q:Int)(K N R a h:Nat)(w:World)(H:w.heap[K]?=some (.cells #[q] 3))(g:w.heap[N]?=some (.cells #[n] 3))(i:w.heap[R]?=some (.cells #[.slice A n c] 136))(p:h3 w A d)(J:d.length=n)(I:∀x∈d,x.l.length=n+1)(U:a<n)(S:h<n):Calls prog 108 #[a,h,.pointer (some K),.pointer (some N),.pointer (some R)] w fun e m=>e=.returned (B5 (d.map IR.l) q a h)/\w=m:=by
 obtain⟨x,F⟩:∃x,d[a]?=some x:=⟨_,k2 Qa⟩;have y:=I x (n2 F);have u:(d.map IR.l).length=n:=by simpa using J
 have Z:=bk1 H;have r:=bk1 g;have t:=bk1 i;have Y:(a:Int)<(n:Int):=Qa
 by_cases z:(h:Int)=q
 .obtain⟨b,o,V,o2,rfl,hA2,G,X,D⟩:=p.cell F (j:=n) Qa;have E:B5 (d.map IR.l) q a h=x.l.getD n 0:=by unfold B5;rw[r4 z,u,D]
  rw[E];rw[y]at G;have O:((h:Int)==q)=true:=by simp[z]
  have L:(n:Int)<((n+1:Nat):Int):=Qa
  generalize x.l.getD n 0=v at*;clear z E D F y I J p u H g i hA2;go_enter func108,ntmps108;go_wp2;go_ret;exact⟨rfl,rfl⟩
 .obtain⟨b,o,V,o2,rfl,hA2,G,X,D⟩:=p.cell F (j:=h) Qa;have E:B5 (d.map IR.l) q a h=x.l.getD h 0:=by unfold B5;rw[Zc9 z,D]
  rw[E];rw[y]at G;have O:((h:Int)==q)=false:=by simp[z]
  have L:(h:Int)<((n+1:Nat):Int):=Qa
  generalize x.l.getD h 0=v at*;clear z E D F y I J p u H g i hA2;go_enter func108,ntmps108;go_wp2;go_ret;exact⟨rfl,rfl⟩
end Go.Proofs
namespace Go.Proofs
variable {m ws W l:List Int} {f g:Nat->Int} {es:List Ex} {den lev d:Int}
def wsum:List Int->(Nat->Int)->Int|[],_=>0|x::m,f=>x*f 0+wsum m fun k=>f (k+1)
def pM(m:List Int)(f g:Nat->Int):wsum m (fun k=>f k+g k)=wsum m f+wsum m g:=by induction m generalizing f g with|nil=>rfl|cons x m ih=>simp only[wsum];rw[ih (fun k=>f (k+1)) fun k=>g (k+1)];grind
def yY(m:List Int)(c:Int)(f:Nat->Int):wsum m (fun k=>c*f k)=c*wsum m f:=by induction m generalizing f with|nil=>simp[wsum]|cons x m ih=>simp only[wsum];rw[ih fun k=>f (k+1)];grind
def yZ(m:List Int)(c:Int)(f:Nat->Int):wsum m (fun k=>f k*c)=wsum m f*c:=by rw[dC,<-yY];congr 1;funext k;exact dC _ _
def pN(m:List Int)(c:Int):wsum m (fun _=>c)=c*m.sum:=by induction m with|nil=>simp[wsum]|cons x m ih=>simp only[wsum,aF];rw[ih];grind
def uF(m:List Int):wsum m (fun _=>0)=0:=by rw[pN];simp
def RQ(a:∀x∈m,0<=x)(h:∀k,k<m.length->f k<=g k):wsum m f<=wsum m g:=by induction m generalizing f g with|nil=>exact iA _|cons x m ih=>simp only[wsum];have q:=Ix (h 0 Qd) (a x Qd);have u:=ih (fun y p=>a y (by simp[p])) (f:=fun k=>f (k+1)) (g:=fun k=>g (k+1)) fun k j=>h (k+1) (by simpa using j);omega
def y7(h:∀k x,m[k]?=some x->x≠0->f k=g k):wsum m f=wsum m g:=by induction m generalizing f g with
 |nil=>rfl|cons x m ih=>
  simp only[wsum];rw[ih (f:=fun k=>f (k+1)) (g:=fun k=>g (k+1)) fun k y p=>h (k+1) y (by simpa using p)];by_cases j:x=0;·rw[j];simp
  .rw[h 0 x rfl j]
def U7:∀(a m:List Int),m.length<=a.length->dotL a m=wsum m fun k=>a.getD k 0|[],[],_=>rfl|_::_,[],_=>by simp[dotL,wsum]|[],_::_,h=>by simp at h|a::ar,x::m,h=>by simp only[dotL,wsum,hE,hR];rw[U7 ar m (by simpa using h)];grind
def y8(a b m:List Int)(h:m.length=a.length):dotL (a++b) m=dotL a m:=by induction a generalizing m with|nil=>have:m=[]:=dR (by simpa using h);subst this;cases b<;>simp[dotL]|cons x a ih=>cases m with|nil=>simp at h|cons y m=>simp only[hP,dotL];rw[ih m (by simpa using h)]
def FW(g:Int):∀(a m:List Int),dotL a (m.map (g*·))=g*dotL a m|[],_=>by simp[dotL]|_::_,[]=>by simp[dotL]|a::ar,x::m=>by simp only[p1,dotL];rw[FW g ar m];grind
def FX(g:Int):∀(es:List Ex)(W:List Int)(k:Nat),putsL es (W.map (g*·)) k=g*putsL es W k|[],_,_=>by simp[putsL]|_::_,[],_=>by simp[putsL]|a::ar,x::m,k=>by simp only[p1,putsL];rw[FX g ar m k];grind
def j6:List Ex->List Int->List Int->Int|x::es,w::W,m=>w*dotL x.1 m+j6 es W m|_,_,_=>0
def uG(m:List Int):∀(es:List Ex)(W:List Int),(∀x∈es,m.length<=x.1.length)->wsum m (putsL es W)=j6 es W m
 |[],W,_=>by
  have:putsL [] W=fun _=>0:=by funext k;simp[putsL]
  rw[this,uF];simp[j6]|x::es,[],_=>by
  have:putsL (x::es) []=fun _=>0:=by funext k;simp[putsL]
  rw[this,uF];simp[j6]|x::es,w::W,h=>by
  have:putsL (x::es) (w::W)=fun k=>w*x.1.getD k 0+putsL es W k:=by funext k;simp[putsL]
  rw[this,pM,yY,uG m es W fun y j=>h y (by simp[j]),<-U7 _ _ (h x Qd)];rfl
def HX{m:List Int} {d:Int}:∀(es:List Ex)(W:List Int),(∀w∈W,0<=w)->(∀(i:Nat)(x:Ex)(w:Int),es[i]?=some x->W[i]?=some w->0<w->dotL x.1 m<=x.2*d)->j6 es W m<=spentL es W*d
 |[],_,_,_=>by simp[j6,spentL]|_::_,[],_,_=>by simp[j6,spentL]|x::es,w::W,hw,h=>by
  have z:=HX es W (fun v j=>hw v (by simp[j])) fun i y v q j=>h (i+1) y v (by simpa using q) (by simpa using j);simp only[j6,spentL];have p:=hw w Qd;have:w*dotL x.1 m<=w*(x.2*d):=by
   by_cases u:w=0;·rw[u];simp
   .exact Ix (h 0 x w rfl rfl Qa) p
  grind
def HY{m:List Int} {d:Int}:∀(es:List Ex)(W:List Int),(∀(i:Nat)(x:Ex)(w:Int),es[i]?=some x->W[i]?=some w->w≠0->dotL x.1 m=x.2*d)->j6 es W m=spentL es W*d
 |[],_,_=>by simp[j6,spentL]|_::_,[],_=>by simp[j6,spentL]|x::es,w::W,h=>by
  have j:=HY es W fun i y v u q=>h (i+1) y v (by simpa using u) (by simpa using q);simp only[j6,spentL];by_cases p:w=0;·rw[p,j];simp
  .rw[h 0 x w rfl rfl p,j];grind
def y9(q:∀x∈es,x.1.length=m.length)(z:ws.length=m.length)(b:∀x∈m,0<=x)(p:m.sum=d)(y:∀w∈W,0<=w)(h:∀k,k<m.length->lev<=ws.getD k 0*den+putsL es W k)(j:∀(i:Nat)(x:Ex)(w:Int),es[i]?=some x->W[i]?=some w->0<w->dotL x.1 m<=x.2*d):(lev-spentL es W)*d<=dotL ws m*den:=by have u:=RQ b h;rw[pN,pM,yZ,<-U7 _ _ Qa,p,uG _ _ _ fun x D=>by rw[q x D];exact h' _]at u;have E:=HX es W y j;grind
def RS(q:∀x∈es,x.1.length=m.length)(y:ws.length=m.length)(p:m.sum=d)(h:∀k x,m[k]?=some x->x≠0->lev=ws.getD k 0*den+putsL es W k)(j:∀(i:Nat)(x:Ex)(w:Int),es[i]?=some x->W[i]?=some w->w≠0->dotL x.1 m=x.2*d):(lev-spentL es W)*d=dotL ws m*den:=by have u:wsum m (fun _=>lev)=wsum m fun k=>ws.getD k 0*den+putsL es W k:=y7 h;rw[pN,pM,yZ,<-U7 _ _ Qa,p,uG _ _ _ fun x z=>by rw[q x z];exact h' _]at u;have D:=HY es W j;grind
def e4{a b:Int} {A B:Nat} (h:a.natAbs<=A)(hb:b.natAbs<=B):(a*b).natAbs<=A*B:=by rw[gY];exact dB h hb
def X0:∀(l:List Int)(g:Nat),gcdL g l∣g/\∀x∈l,(gcdL g l:Int)∣x
 |[],g=>⟨Nat.dvd_refl _,fun x h=>by cases h⟩|n::l,g=>by
  obtain⟨j,p⟩:=X0 l (Nat.gcd g n.natAbs);simp only[gcdL];refine⟨Nat.dvd_trans j (Nat.gcd_dvd_left _ _),fun x h=>?_⟩;rcases ZA1.1 h with rfl|h;·exact Int.ofNat_dvd_left.2 (Nat.dvd_trans j (Nat.gcd_dvd_right _ _))
  .exact p x h
def B6{g:Nat} (x:Int)(o:x∈l)(i:x≠0):0<gcdL g l:=by
 rcases mL (gcdL g l)with h|h;·have:=(X0 l g).2 x o;rw[h]at this;exact absurd (Int.zero_dvd.1 this) i
 .exact h
def zB{g:Int} (p:0<g)(h:∀x∈l,g∣x):(l.map (· / g)).map (g*·)=l:=by
 rw[dN];conv=>rhs;rw[<-pH l]
 apply pI;intro x j;simp only[Function.comp_apply,id_eq];exact mX (h x j)
end Go.Proofs
namespace Go.Proofs
open Go.RowKit
variable {w:World} {A:Option Addr} {l:List Int}
structure Pa where
 nm:ByteArray
 a0:Int
 a1:Int
 c0:Int
 c1:Int
def Pa.cs(p:Pa):List Value:=[.string p.nm,.int .i64 p.a0,.int .i64 p.a1,.int .i64 p.c0,.int .i64 p.c1]
structure En where
 nm:ByteArray
 A:Option Addr
 c:Nat
 co:List Int
 mo:Int
def En.cs(x:En):List Value:=[.string x.nm,.slice x.A x.co.length x.c,.int .i64 x.mo]
def En.ex(x:En):Ex:=(x.co,x.mo)
def h7(w:World)(A:Option Addr)(es:List En):Prop:=At 3 En.cs w A es/\∀x∈es,At 1 Zc w x.A x.co
def h7.below{w':World} {es:List En} (h:h7 w A es)(hb:QB w w'):h7 w' A es:=⟨h.1.below hb,fun x j=>(h.2 x j).below hb⟩
def e'(h:At 1 Zc w A l) {k:Nat} (p:k<l.length):∃b o,A=some ⟨b,o,none⟩/\b<w.heap.size/\w.cell? ⟨b,o+k,none⟩=some (.int .i64 (l.getD k 0)):=by obtain⟨b,o,q,j,u⟩:=h k _ (k2 p);refine⟨b,o,q,j,?_⟩;have:=u 0 _ rfl;rw[h6,k2 p];simpa using this
def ZN(K:Nat)(l:List Int):Prop:=∀x∈l,x.natAbs<=K
def ZN.get{K:Nat} (h:ZN K l)(k:Nat):(l.getD k 0).natAbs<=K:=by rw[h6];cases j:l[k]? with|none=>exact e6 _|some x=>exact h x (n2 j)
def uH:∀(a b:List Int) (k:Nat),k<a.length->k<b.length->dotL (a.take (k+1)) (b.take (k+1))=dotL (a.take k) (b.take k)+a.getD k 0*b.getD k 0|[],_,_,h,_=>by simp at h|_::_,[],_,_,h=>by simp at h|x::a,y::b,0,_,_=>by cases a<;>cases b<;>simp[dotL]|x::a,y::b,k+1,h,h'=>by simp only[m',dotL,hR];have:=uH a b k (by simpa using h) (by simpa using h');rw[this];omega
def U8{X Y:Nat}:∀(a b:List Int) (k:Nat),ZN X a->ZN Y b->(dotL (a.take k) (b.take k)).natAbs<=k*(X*Y)|[],b,k,_,_=>by simp[dotL]|_::_,[],k,_,_=>by simp[dotL]|_::_,_::_,0,_,_=>by simp[dotL]|x::a,y::b,k+1,ha,hb=>by simp only[m',dotL];have j:=e4 (ha x Qd) (hb y Qd);have p:=U8 a b k (fun z h=>ha z (by simp[h])) fun z h=>hb z (by simp[h]);rw[w5];omega
def pO(a b:List Int) (h:a.length=b.length):dotL (a.take a.length) (b.take a.length)=dotL a b:=by rw[x1,h,x1]
def HZ(c:Nat):∀(d:List Ex) (W:List Int) (k:Nat),k<d.length->k<W.length->putsL (d.take (k+1)) (W.take (k+1)) c=putsL (d.take k) (W.take k) c+W.getD k 0*(d.getD k default).1.getD c 0|[],_,_,h,_=>by simp at h|_::_,[],_,_,h=>by simp at h|x::a,y::b,0,_,_=>by cases a<;>cases b<;>simp[putsL]|x::a,y::b,k+1,h,h'=>by simp only[m',putsL,hR];have:=HZ c a b k (by simpa using h) (by simpa using h');rw[this];omega
def mZ{X Y:Nat} (c:Nat):∀(es:List Ex) (W:List Int) (k:Nat),(∀x∈es,ZN X x.1)->ZN Y W->(putsL (es.take k) (W.take k) c).natAbs<=k*(Y*X)|[],b,k,_,_=>by simp[putsL]|_::_,[],k,_,_=>by simp[putsL]|_::_,_::_,0,_,_=>by simp[putsL]|x::a,y::b,k+1,ha,hb=>by simp only[m',putsL];have j:=e4 (hb y Qd) ((ha x Qd).get c);have p:=mZ c a b k (fun z h=>ha z (by simp[h])) fun z h=>hb z (by simp[h]);rw[w5];omega
def H0:∀(c:List Ex) (W:List Int) (k:Nat),k<c.length->k<W.length->spentL (c.take (k+1)) (W.take (k+1))=spentL (c.take k) (W.take k)+W.getD k 0*(c.getD k default).2|[],_,_,h,_=>by simp at h|_::_,[],_,_,h=>by simp at h|x::a,y::b,0,_,_=>by cases a<;>cases b<;>simp[spentL]|x::a,y::b,k+1,h,h'=>by simp only[m',spentL,hR];have:=H0 a b k (by simpa using h) (by simpa using h');rw[this];omega
def U9{X Y:Nat}:∀(c:List Ex) (W:List Int) (k:Nat),(∀x∈c,x.2.natAbs<=X)->ZN Y W->(spentL (c.take k) (W.take k)).natAbs<=k*(Y*X)|[],b,k,_,_=>by simp[spentL]|_::_,[],k,_,_=>by simp[spentL]|_::_,_::_,0,_,_=>by simp[spentL]|x::a,y::b,k+1,ha,hb=>by simp only[m',spentL];have j:=e4 (hb y Qd) (ha x Qd);have p:=U9 a b k (fun z h=>ha z (by simp[h])) fun z h=>hb z (by simp[h]);rw[w5];omega
end Go.Proofs
namespace Go.Proofs
open Tryz
open Go.RowKit
def F3{K x k n:Nat} (h:x<=k*K)(j:k<=n):x<=n*K:=w7 h (M3 _ j)
def _root_.Qv{P:Prop}(h:P:=by simp[intOf]<;>omega):P:=h
def a6(A B:Option Addr)(a b:List Int)(ca cb:Nat)(w:World)(r:At 1 Zc w A a)(hB:At 1 Zc w B b)(I:a.length=b.length)(n:a.length<=8)(X Y:Nat)(u:8*(X*Y)<=9000000000000000000)(d:ZN X a)(sb:ZN Y b):Calls prog 27 #[.slice A a.length ca,.slice B b.length cb] w fun e w'=>e=.returned (dotL a b)/\w=w':=by
 have h:=i' (pO a b I);have j:=i' fun k q=>uH a b k q (by rw[<-I];exact q);have D:=i' fun k=>U8 (X:=X) (Y:=Y) a b k d sb;have f:=i' fun k (q:k<a.length)=>e' r q;have m:=i' fun k (q:k<a.length)=>e' (w:=w) hB (k:=k) (by rw[<-I];exact q);have ga:=i' d.get;have u:=i' u;have gb:=i' sb.get;obtain⟨N,V⟩:=Qu a.length;rw[V]at h j n f m |-;rw[<-I,V];clear r hB I V d sb;obtain⟨S,Z⟩:∃S:Nat->Int,(fun k=>dotL (a.take k) (b.take k))=S:=⟨_,rfl⟩;have F:∀k,dotL (a.take k) (b.take k)=S k:=fun k=>by rw[<-Z]
 have P:S 0=0:=by rw[<-Z];cases a<;>cases b<;>simp[dotL]
 simp only[F]at h j D;obtain⟨R,C⟩:=Qu (dotL a b);rw[C]at h |-;clear Z F C;have aB:=h;go_enter func27,ntmps27;go_wp2;go_loopw [5,10] (fun s i wr=>∃k:Nat,k<=N/\i=.int .i64 k/\s=.int .i64 (S k)/\w=wr)(fun _ i _=>N-(intOf i).toNat);case atStart=>exact⟨0,e6 _,rfl,by rw[P],rfl⟩
 case round=>
  obtain⟨k,q,rfl,rfl,rfl⟩:=hrel;by_cases p:k<N
  .have aC:(k:Int)<(N:Int):=Qa
   obtain⟨b1,o1,hA1,-,Q⟩:=f.out k p;obtain⟨b2,o2,U,-,W⟩:=m.out k p;subst hA1;subst U;have L:=j.out k p;have J:=e4 (ga.out k) (gb.out k);have G:=F3 (D.out k) q;have H:=F3 (D.out (k+1)) p;obtain⟨x,K⟩:=Qu (a.getD k 0);obtain⟨y,M⟩:=Qu (b.getD k 0);rw[K]at Q L J;rw[M]at W L J;obtain⟨z,c⟩:=Qu (x*y);rw[c]at L J;have o:=M3 (X*Y) n;have E:=u.out;obtain⟨XY,O⟩:=Qu (X*Y);rw[O]at J G H o E;have aD:IntKind.i64.wrap (x*y)=z:=by rw[c];exact j0 _ Qa
   have aE:IntKind.i64.wrap (S k+z)=S (k+1):=by rw[<-L];exact j0 _ Qa
   clear c L J G H K M o E O;go_wp2;go_roundw;case rel=>exact⟨k+1,Qa,Qj,rfl,Qr⟩
   case measure=>exact Qv
  .obtain rfl:k=N:=Qa
   have e:S k=R:=h.out;clear p;go_wp2;go_ret;exact⟨aR e,rfl⟩
def RU(l:List Int):∀(k g:Nat),k<l.length->gcdL g (l.take (k+1))=Nat.gcd (gcdL g (l.take k)) (l.getD k 0).natAbs:=by induction l with|nil=>intro k g h;simp at h|cons x l ih=>intro k g h;cases k with|zero=>simp[gcdL]|succ k=>simp only[m',gcdL,hR];exact ih k _ (by simpa using h)
def RV{g n:Int} (h:n≠0):Nat.gcd n.natAbs (g.tmod n).natAbs=Nat.gcd g.natAbs n.natAbs/\(g.tmod n).natAbs<n.natAbs:=by rw[Int.natAbs_tmod];refine⟨?_,Nat.mod_lt _ Qa⟩;rw[Nat.gcd_comm,<-Nat.gcd_rec,Nat.gcd_comm]
def pP(A:Option Addr)(l:List Int)(c:Nat)(w:World)(m:At 1 Zc w A l)(h8:l.length<=1000)(sl:ZN 1000000000000000000 l):Calls prog 61 #[.slice A l.length c] w (Qt w (gcdL 0 l:Nat)):=by
 have h:=i' fun k I=>RU l k 0 I;have f:=i' fun W' (hb:QB w W') k (I:k<l.length)=>e' (m.below hb) I;have ga:=i' sl.get;have p:Hid (gcdL 0 (l.take l.length)=gcdL 0 l):=by rw[x1];exact rfl
 obtain⟨N,o⟩:=Qu l.length;rw[o]at h h8 f p |-;obtain⟨S,J⟩:∃S:Nat->Nat,(fun k=>gcdL 0 (l.take k))=S:=⟨_,rfl⟩;have E:∀k,gcdL 0 (l.take k)=S k:=fun k=>by rw[<-J]
 have L:S 0=0:=by rw[<-J];simp[gcdL]
 simp only[E]at h p;obtain⟨R,r⟩:=Qu (gcdL 0 l);rw[r]at p |-;clear m o sl J E r;go_enter func61,ntmps61;go_wp2;go_loopw [3,8] (fun s i wr=>∃(k:Nat)(g:Int),k<=N/\i=.int .i64 k/\s=.int .i64 g/\Hid (g.natAbs=S k)/\Hid (g.natAbs<=1000000000000000000)/\QB w wr)(fun _ i _=>N-(intOf i).toNat);case atStart=>exact⟨0,0,e6 _,rfl,rfl,by show (0:Int).natAbs=_;rw[L];rfl,by show (0:Int).natAbs<=_;omega,Qi⟩
 case round=>
  obtain⟨k,d,I,rfl,rfl,F,y,q⟩:=hrel;by_cases D:k<N
  .have aC:(k:Int)<(N:Int):=Qa
   obtain⟨b1,o1,hA1,aE,a⟩:=f.out wr q k D;subst hA1;have C:=i' (h.out k D);have H:=i' (ga.out k);obtain⟨x,K⟩:=Qu (l.getD k 0);rw[K]at a C H;clear K;go_wp2;go_loopw [3,5] (fun s j wr=>∃g n:Int,s=.int .i64 g/\j=.int .i64 n/\Hid (Nat.gcd g.natAbs n.natAbs=S (k+1))/\Hid (g.natAbs<=1000000000000000000/\n.natAbs<=1000000000000000000)/\QB w wr)(fun _ j _=>(intOf j).natAbs);case atStart=>exact⟨d,x,rfl,rfl,by show Nat.gcd _ _=_;rw[C.out,F.out],⟨y.out,H.out⟩,by first|assumption|go_grown⟩
   case round=>
    clear q a;obtain⟨g,n,rfl,rfl,B,u,q⟩:=hrel;by_cases Y:n=0
    .subst Y;have z:=i' (show g.natAbs=S (k+1)from by have:=B.out;simpa using this);go_wp2;go_roundw;case rel=>exact⟨k+1,g,Qa,Qj,rfl,z.out,u.out.1,q⟩
     case measure=>exact Qv
    .have aD : (n != 0) = true := by simpa using Y
     obtain⟨M,Q⟩:=RV (g:=g) Y;have z:=i' (M.trans B.out);have G:=i' (show n.natAbs<=1000000000000000000/\(g.tmod n).natAbs<=1000000000000000000 from⟨u.out.2,by have:=u.out.2;omega⟩);have X:=i' Q;clear M Q;go_wp2;refine c8 w Qb Qb Qi ?_;intro V U;repeat (go_big_quiet_step (fail))
     refine Zyi ?_;intro wb O aA Z;clear V U;go_wp2;go_roundw;case rel=>exact⟨n,g.tmod n,rfl,rfl,z.out,G.out,by first|assumption|go_grown⟩
     case measure=>have:=X.out;simp only[intOf];exact this
  .obtain rfl:k=N:=Qa
   have aB:d.natAbs=R:=F.out.trans p.out;have u:=y.out;clear D;go_wp2;all_goals go_ret
   all_goals exact⟨aR Qa,q⟩
def pcn:Nat->Nat->Nat|0,_=>0|f+1,n=>n%2+pcn f (n / 2)
def o1(x:Int):Int:=IntKind.u64.wrap (bits .and .u64 (x / 2) 6148914691236517205+bits .and .u64 x 6148914691236517205)
def o2(x:Int):Int:=IntKind.u64.wrap (bits .and .u64 (x / 4) 3689348814741910323+bits .and .u64 x 3689348814741910323)
def o3(x:Int):Int:=bits .and .u64 (IntKind.u64.wrap (x / 16+x)) 1085102592571150095
def o4(x:Int):Int:=IntKind.u64.wrap (x+x / 256)
def o5(x:Int):Int:=IntKind.u64.wrap (x+x / 65536)
def o6(x:Int):Int:=IntKind.u64.wrap (x+x / 4294967296)
def RX(x:Int):Int:=bits .and .i64 (wrap64 (o6 (o5 (o4 (o3 (o2 (o1 x))))))) 127
def RY:∀n∈List.range 256,RX (n:Int)=((pcn 8 n:Nat):Int):=Qm
def RZ(n:Nat)(j:n<256)(w:World):Calls prog 127 #[.int .u64 n] w fun e a=>e=.returned (pcn 8 n)/\w=a:=by have h:=i' (RY n (y0.2 j));go_enter func127,ntmps127;go_wp2;go_ret;exact⟨aR h.out,rfl⟩
def SA(n:Nat)(h:n<256)(w:World):Calls prog 109 #[.int .u64 n] w fun e a=>e=.returned (pcn 8 n)/\w=a:=by go_enter func109,ntmps109;go_wp2_with (go_at_call 127;refine(RZ n h _).mono ?_;rintro e a ⟨rfl,rfl⟩);go_ret;exact⟨rfl,rfl⟩
end Go.Proofs
namespace Go.Proofs
variable {l:List Int} {x:Int} {k:Nat}
def pQ:∀n∈List.range 6,∀s∈List.range (2^n),∀c∈List.range n,(s>>>c)%2=1->pop n (s-2^c)+1=pop n s/\2^c<=s:=Qm
def l9:∀n∈List.range 6,∀s∈List.range (2^n),pop n s<=n:=Qm
def zC:∀n∈List.range 6,∀s∈List.range (2^n),s≠0->1<=pop n s:=Qm
def FY{f:Nat->Nat->Int} {M:List Int} {row set Z:Nat}:∀(c:Nat)(a p:Int),(p=1∨p=-1)->(∀j,j<c->(f row j).natAbs<=400)->(∀j,j<c->(set>>>j)%2=1->(M.getD (set-2^j) 0).natAbs<=Z)->(eC f M row set c a p).natAbs<=a.natAbs+c*(400*Z)
 |0,a,_,_,_,_=>by unfold eC;omega|c+1,a,p,hs,hf,hM=>by
  unfold eC;have y:(-p=1∨-p=-1):=Qa
  split;·have:=FY c a p hs (fun j u=>hf j Qa) fun j u=>hM j Qa;rw[w5];omega
  .rename_i F;have q:(set>>>c)%2=1:=Qa
   have D:=e4 (hf c Qa) (hM c Qa q);have z:∀h,h.natAbs<=a.natAbs+400*Z->(eC f M row set c h (-p)).natAbs<=a.natAbs+(c+1)*(400*Z):=fun h E=>by have:=FY c h (-p) y (fun j u=>hf j Qa) fun j u=>hM j Qa;rw[w5];omega
   refine z _ ?_;split;·omega
   .rw[Q5];rcases hs with rfl|rfl<;>omega
def zD(h:k<l.length):(l++[x]).getD k 0=l.getD k 0:=by rw[h6,aM h,<-h6]
def pR(h:k=l.length):(l++[x]).getD k 0=x:=by subst h;simp[h6]
def fJ(f:Nat->Nat->Int)(n:Nat):Prop:=∀i j,i<n->j<n->(f i j).natAbs<=400
def uI{f:Nat->Nat->Int} {n:Nat} (z:n<=5)(a:fJ f n):∀s,s<2^n->∀k,k<=s->((dpM f n s).getD k 0).natAbs<=2000^pop n k
 |0,_,k,hk=>by
  obtain rfl:k=0:=Qa
  simp only[dpM,hE];exact Nat.one_le_pow _ _ Qa|s+1,hs,k,hk=>by
  have D:=uI z a s Qa;have N:=X1 f n s;unfold dpM;by_cases y:k<=s;·rw[zD Qa];exact D k y
  .obtain rfl:k=s+1:=Qa
   rw[pR Qa];have h:n∈List.range 6:=y0.2 Qa;have q:s+1∈List.range (2^n):=y0.2 hs;have G:=zC n h _ q Qa;have H:=l9 n h _ q;unfold eK;have:=FY (f:=f) (M:=dpM f n s) (row:=pop n (s+1)-1) (set:=s+1) (Z:=2000^(pop n (s+1)-1)) n 0 1 (.inl rfl) (fun j u=>a _ _ Qa u) fun j u E=>by obtain⟨I,J⟩:=pQ n h _ q j (y0.2 u) E;have L:=l8 j;have:=D (s+1-2^j) Qa;rwa [show pop n (s+1-2^j)=pop n (s+1)-1 by omega]at this
   refine w7 this ?_;obtain⟨p,F⟩:∃p,pop n (s+1)=p+1:=⟨pop n (s+1)-1,Qa⟩;rw[F];simp only[A7,Int.natAbs_zero,w0,pJ];have:n*(400*2000^p)<=5*(400*2000^p):=M3 _ z;omega
def SB{f:Nat->Nat->Int} {n s j:Nat} (z:n<=5)(b:fJ f n)(c:s+1<2^n)(y:j<n)(a:((s+1)>>>j)%2=1):((dpM f n s).getD (s+1-2^j) 0).natAbs<=16000000000000/\2^j<=s+1/\pop n (s+1)-1<n:=by
 have h:n∈List.range 6:=y0.2 Qa;have p:s+1∈List.range (2^n):=y0.2 c;obtain⟨E,q⟩:=pQ n h _ p j (y0.2 y) a;have D:=l9 n h _ p;have F:=l8 j;have:=uI z b s Qa (s+1-2^j) Qa;refine⟨w7 this ?_,q,Qa⟩;have u:pop n (s+1-2^j)<=4:=Qa
 exact w7 (Ok Qa u) Qc
end Go.Proofs
namespace Go.Proofs
open Tryz
open Go.RowKit
variable {f:Nat->Nat->Int} {n s:Nat} {acc:Int}
def info3:(prog.info? 3).map (fun i=>(i.zero,i.size,i.bytes))=some (some (.int .i64 0),1,8):=Qb
def W9(n:Nat) (h:n<=100000) (W:World):(Instr.makeSlice 30 (.int .i64 n) (.int .i64 n)).run prog W=.ok (.slice (some W.heap.size) n n) (W.alloc (.cells (h9 (List.replicate n 0)) 3)):=by rw[<-RJ];exact run_make_row' 30 3 (.int .i64 0) 8 underlying30 info3 rfl .i64 .i64 n Qa Qa W
def SC:∀s∈List.range 32,∀c∈List.range 5,(s>>>c)%2=1->bits .andNot .i64 (s:Int) ((2^c:Nat):Int)=((s-2^c:Nat):Int):=Qm
def SD:∀s∈List.range 32,bits .and .i64 (s:Int) 1=((s%2:Nat):Int):=Qm
def tA(f:Nat->Nat->Int)(n s:Nat)(acc:Int):List Int:=dpM f n (s-1)++acc::List.replicate (2^n-1-s) 0
def SE{h:Int} (j:1<=s):(tA f n s acc).set s h=tA f n s h:=by unfold tA;rw[hZ _ _ (by rw[X1];omega),X1,show s-(s-1+1)=0 by omega];rfl
def uJ(h:1<=s):(tA f n s acc)[s]?=some acc:=by unfold tA;rw[aO (by rw[X1];omega),X1,show s-(s-1+1)=0 by omega];rfl
def SF{k:Nat} (h:1<=s)(j:k<s):(tA f n s acc)[k]?=some ((dpM f n (s-1)).getD k 0):=by unfold tA;have p:=X1 f n (s-1);rw[aM Qa,h6,k2 Qa];rfl
def SG(h:1<=s)(j:s+1<2^n):tA f n s (eK f n (dpM f n (s-1)) s)=tA f n (s+1) 0:=by obtain⟨r,rfl⟩:∃r,s=r+1:=⟨s-1,Qa⟩;unfold tA;simp only[A7];rw[show dpM f n (r+1)=dpM f n r++[eK f n (dpM f n r) (r+1)]from rfl,show 2^n-1-(r+1)=(2^n-1-(r+1+1))+1 by omega,l6];simp
def SH(h:1<=s)(j:s+1=2^n):(tA f n s (eK f n (dpM f n (s-1)) s))[2^n-1]?=some (Z0 f n):=by obtain⟨r,rfl⟩:∃r,s=r+1:=⟨s-1,Qa⟩;rw[show 2^n-1=r+1 by omega,uJ h];unfold Z0;rw[show 2^n-1=r+1 by omega,A7];show _=some ((dpM f n r++[eK f n (dpM f n r) (r+1)]).getD (r+1) 0);rw[pR (by rw[X1])]
def SK(h:1<=n):(List.replicate (2^n) 0).set 0 1=tA f n 1 0:=by unfold tA;obtain⟨r,j⟩:∃r,2^n=r+2:=⟨2^n-2,by have:2^1<=2^n:=Ok Qa h;omega⟩;rw[j,show r+2-1-1=r by omega];rfl
variable {f:Nat->Nat->Int} {M:List Int} {row s d K x n:Nat} {acc g:Int}
def SL:∀n∈List.range 6,∀s∈List.range (2^n),s≠0->(pcn 8 s-1)+1=pcn 8 s/\pop n s-1=pcn 8 s-1/\pcn 8 s-1<n/\IntKind.u64.wrap (s:Int)=(s:Int):=Qm
def SM:∀s∈List.range 32,∀c∈List.range 5,(s:Int) / 2^c=((s>>>c:Nat):Int):=Qm
def SN(h:(s>>>d)%2=0):eC f M row s (d+1) acc g=eC f M row s d acc g:=by
 conv=>lhs;unfold eC
 rw[r4 h]
def SO{m:Int} (h:(s>>>d)%2=1) (a:M.getD (s-2^d) 0=m):eC f M row s (d+1) acc g=eC f M row s d (if m=0 then acc else acc+g*f row d*m) (-g):=by
 conv=>lhs;unfold eC
 rw[Zc9 Qa,a]
def H4(h:x<=(n-(d+1))*K)(a:d+1<=n):x<=(n-d)*K:=w7 h (M3 _ Qa)
def SQ{y:Nat} (h:x<=(n-(d+1))*K)(j:y<=x+K)(a:d+1<=n):y<=(n-d)*K:=by rw[show n-d=n-(d+1)+1 by omega,w5,pK];omega
def SS(h:x<=(n-d)*K)(j:n<=5):x<=5*K:=w7 h (M3 _ Qa)
def SU(A:Option Addr)(b:List IR)(o n:Nat)(q:Int)(w:World)(L:h3 w A b)(hn:b.length=n)(C:∀x∈b,x.l.length=n+1)(h1:1<=n)(h5:n<=5)(hf:fJ (B5 (b.map IR.l) q) n):Calls prog 93 #[.slice A n o,q] w (Qt w (Z0 (B5 (b.map IR.l) q) n)):=by
 obtain⟨f,aU⟩:=Qu (B5 (b.map IR.l) q);have aO:=i' fun(row aN:Nat)(h1:row<n)(h2:aN<n) W (F:QB w W)(e1:W.heap[w.heap.size]?=some (.cells #[.slice A n o] 136))(e2:W.heap[w.heap.size+1]?=some (.cells #[q] 3))(e3:W.heap[w.heap.size+2]?=some (.cells #[n] 3))=>RO A b o n q (w.heap.size+1) (w.heap.size+2) w.heap.size row aN W e2 e3 e1 (L.below F) hn C h1 h2;rw[aU]at aO hf |-;clear aU L C hn;obtain⟨P,hP⟩:=Qu (2^n);have bR:2<=P/\P<=32:=by rcases n with _|_|_|_|_|_|n<;>first|omega|(subst hP;decide)
 have bG:=i' (W9 P Qa);have H:=i' hP;have aS:=i' hf;have aZ:(h9 (List.replicate P 0))[0]?=some (.int .i64 0):=by rw[U1,eY,r4 Qa];rfl
 have bT:(2:Int)^n=(P:Int):=by rw[<-hP];simp
 clear hP hf;go_enter func93,ntmps93;have aW:=bG.out;go_wp2;clear aZ aW;go_loopw [8] (fun i wr=>∃s:Nat,1<=s/\s<=P/\i=.int .i64 s/\Hid ((wr.heap[w.heap.size]?=some (.cells #[.slice A n o] 136)/\wr.heap[w.heap.size+1]?=some (.cells #[q] 3)/\wr.heap[w.heap.size+2]?=some (.cells #[n] 3)/\ZO 3 wr (w.heap.size+3) (if s<P then tA f n s 0 else tA f n (s-1) (eK f n (dpM f n (s-2)) (s-1)))/\QB w wr))) (fun i _=>P-(intOf i).toNat);case atStart=>
  refine⟨1,h' _,Qa,rfl,?_,?_,?_,?_,?_⟩;·exact Qs
  .exact Qs
  .exact Qs
  .rw[r4 Qa,<-SK h1,H.out];have:=ZO.new (T:=3) (((w.alloc (.cells #[.slice A n o] 136)).alloc (.cells #[q] 3)).alloc (.cells #[n] 3)) ((List.replicate P 0).set 0 1);simp only[hU]at this;rw[Pl];exact this
  .go_grown
 case round=>
  obtain⟨s,N,bV,rfl,z⟩:=hrel;obtain⟨m0,m1,m2,m3,y⟩:=z.out;clear z;have C2:=bk1 m2;by_cases X:s<P
  .have bU:(s:Int)<(P:Int):=Qa
   rw[r4 X]at m3;have E:s∈List.range 32:=y0.2 Qa;obtain⟨aD,aE,aF,aY⟩:=SL n (y0.2 Qa) s (y0.2 (by rw[H.out];exact X)) Qa;obtain⟨row,aC⟩:=Qu (pcn 8 s-1);rw[aC]at aD aE aF;have hO:=i' fun W=>SA s Qa W;rw[<-aD]at hO;have bK:=i' fun(d:Nat)(hd:d<n)(F:(s>>>d)%2=1)=>(by obtain⟨r,rfl⟩:∃r,s=r+1:=⟨s-1,Qa⟩;exact SB h5 aS.out (by rw[H.out];exact X) hd F:((dpM f n (s-1)).getD (s-2^d) 0).natAbs<=16000000000000/\2^d<=s/\pop n s-1<n);have J:=i' fun h=>SG (f:=f) (n:=n) (s:=s) N h;have aP:Hid (eC f (dpM f n (s-1)) row s n 0 1=eK f n (dpM f n (s-1)) s):=by unfold eK;rw[aE];exact rfl
   have aJ:=i' (SM s E);have aR:=i' (SC s E);obtain⟨V,hV⟩:=Qu (eK f n (dpM f n (s-1)) s);rw[hV]at J aP;have bB:=i' hV;clear hV aC aD aE E;have E:=i' (show s<32 by omega);go_wp2_with (go_at_call 109;refine(hO.out _).mono ?_;rintro e w2 ⟨rfl,rfl⟩);clear hO aY;go_loopw [10,11] (fun sg j wr=>∃(c:Nat) (g acc:Int),c<=n/\j=.int .i64 ((c:Int)-1)/\sg=.int .i64 g/\(g=1∨g=-1)/\Hid (eC f (dpM f n (s-1)) row s c acc g=V)/\Hid (acc.natAbs<=(n-c)*6400000000000000)/\Hid ((wr.heap[w.heap.size]?=some (.cells #[.slice A n o] 136)/\wr.heap[w.heap.size+1]?=some (.cells #[q] 3)/\wr.heap[w.heap.size+2]?=some (.cells #[n] 3)/\ZO 3 wr (w.heap.size+3) (tA f n s acc)/\QB w wr))) (fun _ j _=>(intOf j+1).toNat);case atStart=>exact⟨n,1,0,h' _,rfl,rfl,.inl rfl,aP.out,by show (0:Int).natAbs<=_;omega,m0,m1,m2,m3,y⟩
   case round=>
    clear m0 m1 m2 m3 y C2;obtain⟨c',g,acc,hc,rfl,rfl,hg,Z,G,z⟩:=hrel;obtain⟨m0,m1,m2,m3,y⟩:=z.out;clear z;have C2:=bk1 m2;rcases c' with _|d
    .have hj:((0:Nat):Int)-1=-1:=rfl;rw[hj];have aH:acc=V:=Z.out;subst aH;go_wp2;go_roundw;case rel=>
      refine⟨s+1,Qa,Qa,Qj,m0,m1,m2,?_,y⟩;by_cases C:s+1<P;·rw[r4 C,<-J.out (by rw[H.out];exact C)];exact m3
      .rw[Zc9 C,show s+1-1=s by omega,show s+1-2=s-1 by omega,bB.out];exact m3
     case measure=>exact Qv
    .have hj:((d+1:Nat):Int)-1=(d:Int):=Qa
     rw[hj];obtain⟨t,a⟩:=Qu (s>>>d);have bJ:(s:Int) / 2^d=(t:Int):=by rw[<-a];exact aJ.out d (y0.2 Qa)
     have O:t<32:=by
      have:s>>>d<=s:=by rw[yN];exact pL _ _
      have:=E.out;omega
     have R:bits .and .i64 (t:Int) 1=((t%2:Nat):Int):=SD t (y0.2 O);rcases yO t with F|F
     .rw[F]at R;simp only[sR,sS,sU]at R;have p:=i' ((SN (by rw[a];exact F)).symm.trans Z.out);clear F a O;go_wp2;go_roundw;case rel=>exact⟨d,g,acc,Qa,rfl,rfl,hg,p.out,H4 G.out hc,m0,m1,m2,m3,y⟩
      case measure=>exact Qv
     .rw[F]at R;simp only[sR,sS,sU]at R;obtain⟨z1,z2,z3⟩:=bK.out d Qa (by rw[a];exact F);obtain⟨m,Q⟩:=Qu ((dpM f n (s-1)).getD (s-2^d) 0);have p:=i' (Z.out.symm.trans (SO (by rw[a];exact F) Q));obtain⟨D,B⟩:=Qu (2^d);have bQ:1<=D:=by rw[<-B];exact Nat.one_le_two_pow
      have bA:(2:Int)^d=(D:Int):=by rw[<-B];simp
      have bL:D<=32:=by rw[B]at z2;omega
      have bC:bits .andNot .i64 (s:Int) (D:Int)=((s-D:Nat):Int):=by rw[<-B];exact aR.out d (y0.2 Qa) (by rw[a];exact F)
      rw[Q]at z1;rw[B]at z2 Q;obtain⟨k,hk⟩:=Qu (s-D);rw[hk]at bC Q;have ck:wr.cell? ⟨w.heap.size+3,k,none⟩=some (.int .i64 m):=m3.load (by rw[SF N Qa,Q]);have bF:(k:Int)<(P:Int):=Qa
      have bN:(s:Int) / (D:Int)=(t:Int):=by rw[<-bA];exact bJ
      clear F a O Q Z hk B;by_cases Y:m=0
      .subst Y;have I:=i' (show eC f (dpM f n (s-1)) row s d acc (-g)=V from by have:=p.out;rw[r4 rfl]at this;exact this.symm);clear p;have aK:-g=1∨-g=-1:=Qa
       go_wp2;go_roundw;case rel=>exact⟨d,-g,acc,Qa,rfl,rfl,aK,I.out,H4 G.out hc,m0,m1,m2,m3,y⟩
       case measure=>exact Qv
      .have aK:-g=1∨-g=-1:=Qa
       have aT:=aS.out row d aF Qa;obtain⟨v,hv⟩:=Qu (f row d);rw[hv]at aT p;have hA:=i' fun W F e1 e2 e3=>aO.out row d aF Qa W F e1 e2 e3;rw[hv]at hA;obtain⟨g1,S⟩:=Qu (g*v);obtain⟨g3,U⟩:=Qu (g1*m);have aB:g1.natAbs<=400:=by rw[<-S];rcases hg with rfl|rfl<;>omega
       have aV:g3.natAbs<=6400000000000000:=by rw[<-U];exact w7 (e4 aB z1) Qc
       have aQ:=SS G.out h5;obtain⟨a2,aG⟩:=Qu (acc+g3);have aA:a2.natAbs<=acc.natAbs+6400000000000000:=Qa
       have bX:IntKind.i64.wrap (g*v)=g1:=by rw[S];exact j0 _ Qa
       have bY:IntKind.i64.wrap (g1*m)=g3:=by rw[U];exact j0 _ Qa
       have bZ:IntKind.i64.wrap (acc+g3)=a2:=by rw[aG];exact j0 _ Qa
       have I:=i' (show eC f (dpM f n (s-1)) row s d a2 (-g)=V from by have:=p.out;rw[Zc9 Y,S,U,aG]at this;exact this.symm);have aI:=i' (SQ G.out aA hc);have cs:wr.cell? ⟨w.heap.size+3,s,none⟩=some (.int .i64 acc):=m3.load (uJ N);have bS : (m != 0) = true := by simpa using Y
       clear p S U aG aB aV aQ aA Y aT z1 hv;have hA2:=i' fun(x:Grew wr)=>hA.out x.val (via y x.ok) (Zx x.ok m0) (Zx x.ok m1) (Zx x.ok m2);have bW:=m3.size;have bH:(row:Int)+1-1=(row:Int):=Qa
       clear hA;go_wp2;refine B9 w 14 Qb Qb Qi ?_;intro bE bD;simp only[m',sT,e5,sA];repeat (go_big_quiet_step ((go_at_call 108;with_reducible exact Zd (hA2.out _))))
       refine Zyi ?_;intro wb u aM bI;clear bE bD;have n0:=Zx u m0;have n1:=Zx u m1;have n2:=Zx u m2;have n3:=m3.below u;have bO:=n3.load (uJ N);have bP:=n3.frozen s;clear m0 m1 m2 m3 C2 cs ck hA2;go_wp2;go_roundw;case rel=>have n4:=n3.store s a2;rw[SE N]at n4;exact⟨d,-g,a2,Qa,rfl,rfl,aK,I.out,aI.out,ZC n0 Qf _,ZC n1 Qf _,ZC n2 Qf _,n4,aM.setCell Qf _⟩
       case measure=>exact Qv
  .have aX:s=P:=Qa
   subst aX;rw[Zc9 Qa]at m3;have aL:=m3.load (k:=s-1) (x:=Z0 f n) (by have:=SH (f:=f) (n:=n) (s:=s-1) Qa (by rw[H.out];omega);rw[H.out]at this;exact this);obtain⟨k,hk⟩:=Qu (s-1);rw[hk]at aL;have bF:(s:Int)-1=(k:Int):=Qa
   have bM:(k:Int)<(s:Int):=Qa
   clear X;go_wp2;go_ret;exact⟨rfl,y⟩
variable {es:List En} {np:Nat}
structure RightE (es:List En)(np:Nat):Prop where
 n8:es.length<=8
 co:∀x∈es,x.co.length=np/\ZN 20 x.co/\x.mo.natAbs<=20
def exs(es:List En):List Ex:=es.map En.ex
def B7{k:Nat} {x:En} (h:es[k]?=some x):(exs es).getD k default=(x.co,x.mo):=by simp[exs,h6,h,En.ex]
def RightE.exs_co(h:RightE es np):∀x∈exs es,ZN 20 x.1:=fun x j=>by obtain⟨y,p,rfl⟩:=L'.1 j;exact(h.co y p).2.1
def RightE.exs_mo(h:RightE es np):∀x∈exs es,x.2.natAbs<=20:=fun x j=>by obtain⟨y,p,rfl⟩:=L'.1 j;exact(h.co y p).2.2
def A5(es:List En):(exs es).length=es.length:=R' ..
def zE(pA r wA:Option Addr)(pn pc ec wc np:Nat)(es:List En)(W:List Int)(a m:Int)(c:Nat)(w:World)(C:RightE es np)(hE:h7 w r es)(hW:At 1 Zc w wA W)(Q:W.length=es.length)(hc:c<np)(sW:ZN 10000000000000000 W):Calls prog 59 #[.agg #[.slice pA pn pc,.slice r es.length ec],.agg #[a,m,.slice wA W.length wc],c] w (Qt w (putsL (exs es) W c)):=by
 have h8:=C.n8;have j:=i' fun k D=>HZ c (exs es) W k (by rw[A5];exact D) (by rw[Q];exact D);have F:=i' fun k=>mZ (X:=20) (Y:=10000000000000000) c (exs es) W k C.exs_co sW;have p:=i' (show putsL ((exs es).take es.length) (W.take es.length) c=putsL (exs es) W c by rw[<-A5,x1,A5,<-Q,x1]);have gE:=i' fun y (P:QB w y) k (D:k<es.length)=>(by
  obtain⟨b,o,hA,h,H⟩:=(hE.below P).1 k _ (k2 D);have hx:=D1 D;obtain⟨h1,h2,-⟩:=C.co _ hx;obtain⟨E,o2,hA2,Z,aF⟩:=e' ((hE.below P).2 _ hx) (k:=c) Qa;refine⟨es[k],b,o,E,o2,hA,h,Z,hA2,h1,?_,?_,?_,aF,h2.get c,B7 (k2 D)⟩;·simpa using H 0 _ rfl
  .have:=H 1 _ rfl;rw[hA2]at this;exact this
  .exact H 2 _ rfl:∃x:En,∃b o E o2,r=some ⟨b,o,none⟩/\b<y.heap.size/\E<y.heap.size/\x.A=some ⟨E,o2,none⟩/\x.co.length=np/\y.cell? ⟨b,o+k*3,none⟩=some (.string x.nm)/\y.cell? ⟨b,o+k*3+1,none⟩=some (.slice (some ⟨E,o2,none⟩) x.co.length x.c)/\y.cell? ⟨b,o+k*3+2,none⟩=some (.int .i64 x.mo)/\y.cell? ⟨E,o2+c,none⟩=some (.int .i64 (x.co.getD c 0))/\(x.co.getD c 0).natAbs<=20/\(exs es).getD k default=(x.co,x.mo));have gW:=i' fun y (P:QB w y) k (D:k<es.length)=>e' (hW.below P) (k:=k) Qa;have sw:=i' sW.get;obtain⟨N,B⟩:=Qu es.length;rw[Q,B];rw[B]at j p gE gW h8;obtain⟨S,hS⟩:∃S:Nat->Int,(fun k=>putsL ((exs es).take k) (W.take k) c)=S:=⟨_,rfl⟩;have V:∀k,putsL ((exs es).take k) (W.take k) c=S k:=fun k=>by rw[<-hS]
 have aB:S 0=0:=by rw[<-hS];cases es<;>cases W<;>simp[putsL,exs]
 simp only[A5,B,V]at p j F;obtain⟨R,U⟩:=Qu (putsL (exs es) W c);rw[U]at p |-;clear hE hW Q sW hS V U C B;go_enter func59,ntmps59;go_wp2;go_loopw [7,13] (fun s i wr=>∃k:Nat,k<=N/\i=.int .i64 k/\s=.int .i64 (S k)/\wr.heap[w.heap.size]?=some (.cells #[.slice pA pn pc,.slice r N ec] 25)/\wr.heap[w.heap.size+1]?=some (.cells #[a,m,.slice wA N wc] 46)/\QB w wr)(fun _ i _=>N-(intOf i).toNat);case atStart=>exact⟨0,e6 _,rfl,by rw[aB],Qs,Qs,Qi⟩
 case round=>
  obtain⟨k,D,rfl,rfl,m0,m1,G⟩:=hrel;have C0:=bk2 m0;have C1:=bk3 m1;by_cases h:k<N
  .have aJ:(k:Int)<(N:Int):=Qa
   obtain⟨x,b,o,E,o2,hA1,aK,aL,hA2,aH,c0,c1,c2,c3,aA,hg⟩:=gE.out wr G k h;obtain⟨b3,o3,hA3,aM,c4⟩:=gW.out wr G k h;subst hA1;subst hA3;have J:=j.out k h;rw[hg]at J;have hm:=e4 (sw.out k) aA;have aC:=F3 (F.out k) D;have aD:=F3 (F.out (k+1)) h;have h9:=M3 (10000000000000000*20) h8;have aI:(c:Int)<(x.co.length:Int):=Qa
   obtain⟨u,hu⟩:=Qu (W.getD k 0);obtain⟨v,hv⟩:=Qu (x.co.getD c 0);rw[hu]at c4 J hm;dsimp only at J;rw[hv]at c3 J hm;obtain⟨z,hz⟩:=Qu (u*v);rw[hz]at J hm;have aN:IntKind.i64.wrap (u*v)=z:=by rw[hz];exact j0 _ Qa
   have aO:IntKind.i64.wrap (S k+z)=S (k+1):=by rw[<-J];exact j0 _ Qa
   generalize x.co.length=L at*;clear hz J hm aC aD hu hv h9 aA hg hA2 aH;go_wp2;refine c8 w Qb Qb Qi ?_;intro aG aE;repeat (go_big_quiet_step (fail))
   refine Zyi ?_;intro wb q O I;clear aG aE;simp only[hU]at I;have n0:=Zx q (Zz m0 _);have n1:=Zx q (Zz m1 _);clear m0 m1 C0 C1 c0 c1 c2 c3 c4;go_wp2;go_roundw;case rel=>exact⟨k+1,Qa,Qj,rfl,n0,n1,O⟩
   case measure=>exact Qv
  .obtain rfl:k=N:=Qa
   have e:S k=R:=p.out;clear h;go_wp2;go_ret;exact⟨aR e,G⟩
def SV(pA r wA:Option Addr)(pn pc ec wc np:Nat)(es:List En)(W:List Int)(a m:Int)(w:World)(l:RightE es np)(hE:h7 w r es)(hW:At 1 Zc w wA W)(B:W.length=es.length)(sW:ZN 10000000000000000 W):Calls prog 60 #[.agg #[.slice pA pn pc,.slice r es.length ec],.agg #[a,m,.slice wA W.length wc]] w (Qt w (spentL (exs es) W)):=by
 have h8:=l.n8;have j:=i' fun k y=>H0 (exs es) W k (by rw[A5];exact y) (by rw[B];exact y);have E:=i' fun k=>U9 (X:=20) (Y:=10000000000000000) (exs es) W k l.exs_mo sW;have p:=i' (show spentL ((exs es).take es.length) (W.take es.length)=spentL (exs es) W by rw[<-A5,x1,A5,<-B,x1]);have gE:=i' fun D (P:QB w D) k (y:k<es.length)=>(by
  obtain⟨b,o,hA,h,G⟩:=(hE.below P).1 k _ (k2 y);have hx:=D1 y;obtain⟨h1,h2,-⟩:=l.co _ hx;have O:=(l.co _ hx).2.2;refine⟨es[k],b,o,hA,h,?_,?_,?_,O,B7 (k2 y)⟩;·simpa using G 0 _ rfl
  .exact G 1 _ rfl
  .exact G 2 _ rfl:∃x:En,∃b o,r=some ⟨b,o,none⟩/\b<D.heap.size/\D.cell? ⟨b,o+k*3,none⟩=some (.string x.nm)/\D.cell? ⟨b,o+k*3+1,none⟩=some (.slice x.A x.co.length x.c)/\D.cell? ⟨b,o+k*3+2,none⟩=some (.int .i64 x.mo)/\x.mo.natAbs<=20/\(exs es).getD k default=(x.co,x.mo));have gW:=i' fun D (P:QB w D) k (y:k<es.length)=>e' (hW.below P) (k:=k) Qa;have sw:=i' sW.get;obtain⟨N,t⟩:=Qu es.length;rw[B,t];rw[t]at j p gE gW h8;obtain⟨S,C⟩:∃S:Nat->Int,(fun k=>spentL ((exs es).take k) (W.take k))=S:=⟨_,rfl⟩;have V:∀k,spentL ((exs es).take k) (W.take k)=S k:=fun k=>by rw[<-C]
 have aA:S 0=0:=by rw[<-C];cases es<;>cases W<;>simp[spentL,exs]
 simp only[A5,t,V]at p j E;obtain⟨R,U⟩:=Qu (spentL (exs es) W);rw[U]at p |-;clear hE hW B sW C V U l t;go_enter func60,ntmps60;go_wp2;go_loopw [5,11] (fun s i wr=>∃k:Nat,k<=N/\i=.int .i64 k/\s=.int .i64 (S k)/\wr.heap[w.heap.size]?=some (.cells #[.slice pA pn pc,.slice r N ec] 25)/\wr.heap[w.heap.size+1]?=some (.cells #[a,m,.slice wA N wc] 46)/\QB w wr)(fun _ i _=>N-(intOf i).toNat);case atStart=>exact⟨0,e6 _,rfl,by rw[aA],Qs,Qs,Qi⟩
 case round=>
  obtain⟨k,y,rfl,rfl,m0,m1,F⟩:=hrel;have C0:=bk2 m0;have C1:=bk3 m1;by_cases h:k<N
  .have aF:(k:Int)<(N:Int):=Qa
   obtain⟨x,b,o,hA1,aG,c0,c1,c2,Z,hg⟩:=gE.out wr F k h;obtain⟨b3,o3,hA3,aH,c4⟩:=gW.out wr F k h;subst hA1;subst hA3;have I:=j.out k h;rw[hg]at I;have O:=e4 (sw.out k) Z;have aB:=F3 (E.out k) y;have aC:=F3 (E.out (k+1)) h;have h9:=M3 (10000000000000000*20) h8;obtain⟨u,hu⟩:=Qu (W.getD k 0);obtain⟨v,hv⟩:=Qu x.mo;rw[hu]at c4 I O;dsimp only at I;rw[hv]at c2 I O;obtain⟨z,Q⟩:=Qu (u*v);rw[Q]at I O;have aI:IntKind.i64.wrap (u*v)=z:=by rw[Q];exact j0 _ Qa
   have aJ:IntKind.i64.wrap (S k+z)=S (k+1):=by rw[<-I];exact j0 _ Qa
   generalize x.co.length=L at*;clear Q I O aB aC hu hv h9 Z hg;go_wp2;refine c8 w Qb Qb Qi ?_;intro aE aD;repeat (go_big_quiet_step (fail))
   refine Zyi ?_;intro wb q J H;clear aE aD;simp only[hU]at H;have n0:=Zx q (Zz m0 _);have n1:=Zx q (Zz m1 _);clear m0 m1 C0 C1 c0 c1 c2 c4;go_wp2;go_roundw;case rel=>exact⟨k+1,Qa,Qj,rfl,n0,n1,J⟩
   case measure=>exact Qv
  .obtain rfl:k=N:=Qa
   have e:S k=R:=p.out;clear h;go_wp2;go_ret;exact⟨aR e,F⟩
end Go.Proofs
namespace Go.Proofs
open Go.RowKit
variable {w w':World} {base:Nat} {e:TypeId} {v:Value}
def SW(a:QB w w'):w.grownBy w' none:=⟨a.os,a.tape,a.output,a.size,fun k h _=>a.block k h⟩
def ZL{size:Nat} {n:Nat} {d:List Value} (h:w.ownsRow base e size v n d)(hb:QB w w'):w'.ownsRow base e size v n d:=h.kept (SW hb) (by cases v.ownBlock<;>simp)
def H5{α β:Type} (cs:α->List β)(b:Nat)(p:∀x,(cs x).length=b):∀(l:List α)(k j:Nat)(x:α)(v:β),l[k]?=some x->(cs x)[j]?=some v->(l.flatMap cs)[k*b+j]?=some v|[],k,j,x,v,h,_=>by simp at h|a::l,0,j,x,v,h,hv=>by simp only[n9,B3]at h;subst h;rw[iB,eV,w0,aM (y'.1 hv).1];exact hv|a::l,k+1,j,x,v,h,hv=>by simp only[nK]at h;have q:=H5 cs b p l k j x v h hv;rw[iB,aO (by rw[p];rw[k5];omega),p,show (k+1)*b+j-b=k*b+j by rw[k5];omega];exact q
def gE{α:Type} {cs:α->List Value} {sz:Nat} {l:List α} (q:∀x,(cs x).length=sz)(h:w.ownsRow base e sz v l.length (l.flatMap cs)):∃A p,v=.slice A l.length p/\At sz cs w A l:=by
 rcases h.2 with⟨rfl,L⟩|⟨g,p,F,rfl,O,J,N,G,H,S⟩;·have:l=[]:=dR L;subst this;exact⟨none,0,rfl,fun k x y=>by simp at y⟩
 .refine⟨some ⟨g,0,none⟩,p,rfl,fun k x y=>⟨g,0,rfl,(bO.1 J).1,fun j u E=>?_⟩⟩;have I:=H5 cs sz q l k j x u y E;have R:j<sz:=by rw[<-q x];exact(y'.1 E).1
  have z:k<l.length:=(y'.1 y).1;have D:k*sz+j<l.length*sz:=by have:=M3 sz (Nat.succ_le_of_lt z);rw[k5]at this;omega
  rw[w0,h.cellAt _ D];exact I
variable {w w' x x':World} {base size n sz b c:Nat} {e:TypeId} {v:Value} {xs:List Value} {row:Option Nat} {A:Option Addr}
def Z2(h:w.ownsRow base e size v n xs):∃A c,v=.slice A n c:=by
 rcases h.2 with⟨rfl,rfl⟩|⟨g,j,p,q,-⟩;·exact⟨none,0,rfl⟩
 .exact⟨_,_,q⟩
def b2{j:Nat} (h:w.ownsRow j e size v n xs)(hb:base<=j):w.ownsRow base e size v n xs:=by
 refine⟨h.1,?_⟩;rcases h.2 with h|⟨g,p,q,u,y,z⟩;·exact .inl h
 .exact .inr ⟨g,p,q,u,w7 hb y,z⟩
def A9(h:w.ownsRow base e sz v n xs)(hb:∀g,v.ownBlock=some g->w'.heap[g]?=w.heap[g]?):w'.ownsRow base e sz v n xs:=by
 refine⟨h.1,?_⟩;rcases h.2 with h|⟨g,j,p,rfl,q,u,y⟩;·exact .inl h
 .exact .inr ⟨g,j,p,rfl,q,(hb g rfl).trans u,y⟩
def kM(h:w.ownsRow base e sz v n xs)(j:w.grownBy w' row)(hne:∀g,v.ownBlock=some g->some g≠row):w'.ownsRow base e sz v n xs:=A9 h fun g e=>j.block g (h.lt g e).2 (hne g e)
def v8(h:w.ownsRow base e size v n xs)(hb:b<base):some b≠v.ownBlock:=by intro j;have:=(h.lt b j.symm).1;omega
def G1{o:Obj} (j:x.grownBy x' row)(h:x.heap[b]?=some o)(hne:some b≠row):x'.heap[b]?=some o:=(j.block b (cI h) hne).trans h
def ZW(h:QB w x)(j:x.grownBy x' row)(p:∀b,row=some b->w.heap.size<=b):QB w x':=h.grown j h.size p
def P2(w:World)(d:List Value)(t:TypeId)(p:n=w.heap.size):∀j u,d[j]?=some u->(w.alloc (.cells d.toArray t)).cell? (Addr.add ⟨n,0,none⟩ j)=some u:=by
 subst p;intro j u q;have h:=Bt w (.cells d.toArray t);have e:Addr.add ⟨w.heap.size,0,none⟩ j=⟨w.heap.size,j,none⟩:=by unfold Addr.add;split<;>simp_all
 rw[e];unfold World.cell?;simp only[h];simpa using q
def W5(h:w.ownsRow base e 1 (.slice A n c) n xs) {k:Nat} {u:Value} (d:xs[k]?=some u):∃g,A=some ⟨g,0,none⟩/\base<=g/\g<w.heap.size/\w.cell? ⟨g,k,none⟩=some u:=by
 rcases h.2 with⟨-,j⟩|⟨g,q,y,z,j,p,E,F,G,D⟩;·have:=h.1;rw[j,eV]at this;have:xs=[]:=dR this;subst this;simp at d
 .cases z;refine⟨g,rfl,j,(bO.1 p).1,?_⟩;unfold World.cell?;simp only[p];have H:=(y'.1 d).1;have:=h.1;rw[<-D,dS,r4 Qa,mG]at d;simpa using d
def e7{l:List Int} (h:w.ownsRow base e 1 (.slice A n c) n (l.map (Value.int .i64))):At 1 Zc w A l:=by intro k x D;obtain⟨g,z,E,q,y⟩:=W5 h (k:=k) (u:=.int .i64 x) (by rw[k3,D];rfl);refine⟨g,0,z,q,fun j v p=>?_⟩;cases j with|zero=>simp[Zc]at p;subst p;simpa using y|succ j=>simp[Zc]at p
def SX{P:Prop} (h:Hid P):P:=h.out
end Go.Proofs
namespace Go.Proofs
open Tryz
open Go.RowKit
variable {r:List (List Int)}
def qOf(h:Option Nat):Int:=match h with|none=>-1|some c=>(c:Int)
def pS(r:List (List Int))(j:Option Nat):B5 r (qOf j)=colF r j:=by funext i c;unfold B5 colF;cases j with
 |none=>
  have:¬((c:Int)=qOf none):=by show ¬((c:Int)=-1);omega
  rw[Zc9 this,Zc9 Qd]|some d=>
  unfold qOf;by_cases h:d=c;·subst h;simp
  .have p:¬((c:Int)=(d:Int)):=Qa
   have q:¬(some d=some c):=by simpa using h
   rw[Zc9 p,Zc9 q]
def gW(r:List (List Int)):Prop:=∀a∈r,ZN 400 a
def gW.entR(h:gW r)(i j:Nat):(entR r i j).natAbs<=400:=by unfold Go.Proofs.entR;rw[h6 (l:=r)];cases c:r[i]? with|none=>simp|some row=>exact(h row (n2 c)).get j
def gW.col(h:gW r)(q:Int)(n:Nat):fJ (B5 r q) n:=fun i j _ _=>h.entR _ _
def SY{f:Nat->Nat->Int} {n:Nat} (h:n<=5)(a:fJ f n):(Z0 f n).natAbs<=32000000000000000:=by unfold Z0;have j:=l8 n;have:=uI h a (2^n-1) Qa (2^n-1) (h' _);refine w7 this ?_;have p:=l9 n (y0.2 Qa) (2^n-1) (y0.2 Qa);exact w7 (Ok Qa (show pop n (2^n-1)<=5 by omega)) Qc
def kX(r:List (List Int))(h:Nat)(e:Ending)(a:World):Prop:=match D9 r with|none=>e=.returned (.tuple #[.slice none 0 0,(0:Int),false])|some (l,den)=>∃v,e=.returned (.tuple #[v,den,true])/\a.ownsRow h 3 1 v l.length (l.map (Value.int .i64))
def SZ(A:Option Addr)(a:List IR)(p:Nat)(h:Option Nat)(w:World)(j:h3 w A a)(u:∀x∈a,x.l.length=a.length+1)(q:1<=a.length)(b:a.length<=5)(c:gW (a.map IR.l)):Calls prog 93 #[.slice A a.length p,(qOf h)] w (Qt w (Z3 (a.map IR.l) h)):=by have:=SU A a p a.length (qOf h) w j rfl u q b (c.col _ _);rw[pS]at this;unfold Z3;rw[R'];exact this
def zF(A:Option Addr)(a:List IR)(cp:Nat)(w:World)(aC:h3 w A a)(hl:∀x∈a,x.l.length=a.length+1)(h1:1<=a.length)(h5:a.length<=5)(hs:gW (a.map IR.l)):Calls prog 73 #[.slice A a.length cp] w fun e w'=>kX (a.map IR.l) w.heap.size e w'/\QB w w':=by
  have C:=i' fun R W (d:QB w W)=>SZ A a cp R W (aC.below d) hl h1 h5 hs;have aG:=i' fun R=>(by have:=SY h5 (hs.col (qOf R) a.length);rw[pS]at this;unfold Z3;rw[R'];exact this:(Z3 (a.map IR.l) R).natAbs<=32000000000000000);have O:(a.map IR.l).length=a.length:=R' ..;obtain⟨N,hN⟩:=Qu a.length;obtain⟨r,hr⟩:=Qu (a.map IR.l);rw[hN]at C h5 h1 O |-;rw[hr]at C aG O |-;have aK:=i' O;clear aC hl hs hN hr O;have aF:=i' fun W d=>C.out none W d;have aQ:=aG.out none;obtain⟨z,aJ⟩:=Qu (Z3 r none);rw[aJ]at aF aQ;have aA:=i' aJ;by_cases hz:z=0
  . subst hz;go_enter func73,ntmps73;go_wp2_with (go_at_call 93;refine(aF.out _ (q' _ _)).mono ?_;rintro e w1 ⟨rfl,G⟩);refine x3 (v:=.tuple #[.slice none 0 0,(0:Int),false]) ?_ rfl ⟨?_,G⟩;· simp[results,results73,go_sem]
    . unfold kX D9;rw[r4 aA.out]
  . have aT:(z==0)=false:=by simpa using hz
    have J:=i' (show D9 r=some ((List.range N).map fun i=>x6 z*Z3 r (some i),x6 z*z)from by unfold D9;rw[Zc9 (by rw[aA.out];exact hz),aA.out,aK.out]);obtain⟨i0,hi,aN,aO,aP⟩:=x0 info3;clear aJ;by_cases aH:z<0
    . have s:x6 z=-1:=by unfold x6;rw[r4 aH]
      obtain⟨L,K⟩:∃L:Nat->List Int,(fun k=>(List.range k).map fun i=>x6 z*Z3 r (some i))=L:=⟨_,rfl⟩;have j:∀k,((List.range k).map fun i=>x6 z*Z3 r (some i))=L k:=fun k=>by rw[<-K]
      have U:∀k,L (k+1)=L k++[-1*Z3 r (some k)]:=fun k=>by rw[<-j,<-j,cM,s];simp
      have F:∀k,(L k).length=k:=fun k=>by rw[<-j];simp
      have aI:L 0=[]:=dR (F 0);have V:=i' U;have S:=i' F;rw[j]at J;have aS:IntKind.i64.wrap (-z)=-z:=j0 _ Qa;clear K j U F;go_enter func73,ntmps73;go_wp2_with (go_at_call 93;refine(aF.out _ (q' _ _)).mono ?_;rintro e w1 ⟨rfl,G⟩);go_loopw [7,17] (fun v i wr=>∃k:Nat,k<=N/\i=.int .i64 k/\wr.ownsRow w.heap.size 3 1 v k ((L k).map (Value.int .i64))/\QB w wr)(fun _ i _=>N-(intOf i).toNat);case atStart=>exact⟨0,e6 _,rfl,by rw[aI];exact hM _ _ _ _,G⟩
      case round=>
        clear G;obtain⟨k,hk,rfl,p,H⟩:=hrel;obtain⟨f,B,rfl⟩:=Z2 p;have q:=i' p;clear p;by_cases aL:k<N
        . have aR:(k:Int)<(N:Int):=Qa
          have E:=i' fun W d=>C.out (some k) W d;have Y:=aG.out (some k);have M:Hid (qOf (some k)=(k:Int)):=rfl;have hs:=V.out k;obtain⟨x,hx⟩:=Qu (Z3 r (some k));rw[hx]at E Y hs;rw[M.out]at E;have aM:IntKind.i64.wrap (-x)=-x:=j0 _ Qa;have o:=i' (show L (k+1)=L k++[-x]from by rw[hs];simp);clear hx hs M;go_wp2_with (first
            | (go_at_call 93;refine(E.out _ H).mono ?_;rintro e w2 ⟨rfl,X⟩;have D:=via H X;have h:=i' (ZL q.out X))|(at_builtin;refine C0 _ rfl _ _ 30 rfl w.heap.size 3 i0 (.int .i64 0) 1 8 underlying30 hi aN aO aP rfl Qc _ _ _ rfl (h.out.alloc _) ⟨w2.heap.size,0,none⟩ 1 1 [.int .i64 (-x)] rfl rfl ?c1 ?c2 ?c3 ?c4 ?c5 ?_));case c1=>exact P2 _ [.int .i64 (-x)] _ Qd
          case c2=>intro u Q;simp at Q;subst Q;rfl
          case c3=>unfold maxLen;omega
          case c4=>omega
          case c5=>have:=D.size;simp;omega
          intro v' w3 y m _;have Z:QB w w3:=ZW (via D (ZB _ _)) m fun b e=>(h.out.lt b e).1;have I:Hid (w3.ownsRow w.heap.size 3 1 v' (k+1) ((L (k+1)).map (Value.int .i64))):=i' (by rw[o.out,b3];exact y);clear y m h o Y aM;go_wp2;go_roundw;case rel=>exact⟨k+1,Qa,Qj,I.out,Z⟩
          case measure=>exact Qv
        . obtain rfl:k=N:=Qa
          clear aL;go_wp2;refine x3 (v:=.tuple #[.slice f k B,.int .i64 (-z),true]) ?_ rfl ⟨?_,H⟩;· simp[results,results73,go_sem]
          . unfold kX;rw[J.out];exact⟨.slice f k B,by rw[s];simp,by rw[S.out];exact q.out⟩
    . have s:x6 z=1:=by unfold x6;rw[Zc9 aH]
      obtain⟨L,K⟩:∃L:Nat->List Int,(fun k=>(List.range k).map fun i=>x6 z*Z3 r (some i))=L:=⟨_,rfl⟩;have j:∀k,((List.range k).map fun i=>x6 z*Z3 r (some i))=L k:=fun k=>by rw[<-K]
      have U:∀k,L (k+1)=L k++[1*Z3 r (some k)]:=fun k=>by rw[<-j,<-j,cM,s];simp
      have F:∀k,(L k).length=k:=fun k=>by rw[<-j];simp
      have aI:L 0=[]:=dR (F 0);have V:=i' U;have S:=i' F;rw[j]at J;have aS:IntKind.i64.wrap (z)=z:=j0 _ Qa;clear K j U F;go_enter func73,ntmps73;go_wp2_with (go_at_call 93;refine(aF.out _ (q' _ _)).mono ?_;rintro e w1 ⟨rfl,G⟩);go_loopw [7,17] (fun v i wr=>∃k:Nat,k<=N/\i=.int .i64 k/\wr.ownsRow w.heap.size 3 1 v k ((L k).map (Value.int .i64))/\QB w wr)(fun _ i _=>N-(intOf i).toNat);case atStart=>exact⟨0,e6 _,rfl,by rw[aI];exact hM _ _ _ _,G⟩
      case round=>
        clear G;obtain⟨k,hk,rfl,p,H⟩:=hrel;obtain⟨f,B,rfl⟩:=Z2 p;have q:=i' p;clear p;by_cases aL:k<N
        . have aR:(k:Int)<(N:Int):=Qa
          have E:=i' fun W d=>C.out (some k) W d;have Y:=aG.out (some k);have M:Hid (qOf (some k)=(k:Int)):=rfl;have hs:=V.out k;obtain⟨x,hx⟩:=Qu (Z3 r (some k));rw[hx]at E Y hs;rw[M.out]at E;have aM:IntKind.i64.wrap (x)=x:=j0 _ Qa;have o:=i' (show L (k+1)=L k++[x]from by rw[hs];simp);clear hx hs M;go_wp2_with (first
            | (go_at_call 93;refine(E.out _ H).mono ?_;rintro e w2 ⟨rfl,X⟩;have D:=via H X;have h:=i' (ZL q.out X))|(at_builtin;refine C0 _ rfl _ _ 30 rfl w.heap.size 3 i0 (.int .i64 0) 1 8 underlying30 hi aN aO aP rfl Qc _ _ _ rfl (h.out.alloc _) ⟨w2.heap.size,0,none⟩ 1 1 [.int .i64 (x)] rfl rfl ?c1 ?c2 ?c3 ?c4 ?c5 ?_));case c1=>exact P2 _ [.int .i64 (x)] _ Qd
          case c2=>intro u Q;simp at Q;subst Q;rfl
          case c3=>unfold maxLen;omega
          case c4=>omega
          case c5=>have:=D.size;simp;omega
          intro v' w3 y m _;have Z:QB w w3:=ZW (via D (ZB _ _)) m fun b e=>(h.out.lt b e).1;have I:Hid (w3.ownsRow w.heap.size 3 1 v' (k+1) ((L (k+1)).map (Value.int .i64))):=i' (by rw[o.out,b3];exact y);clear y m h o Y aM;go_wp2;go_roundw;case rel=>exact⟨k+1,Qa,Qj,I.out,Z⟩
          case measure=>exact Qv
        . obtain rfl:k=N:=Qa
          clear aL;go_wp2;refine x3 (v:=.tuple #[.slice f k B,(z),true]) ?_ rfl ⟨?_,H⟩;· simp[results,results73,go_sem]
          . unfold kX;rw[J.out];exact⟨.slice f k B,by rw[s];simp,by rw[S.out];exact q.out⟩
end Go.Proofs
namespace Go.Proofs
variable {n k:Nat} {l W ws:List Int} {den lev x g:Int} {es:List Ex}
def rX:Nat->Nat|0=>1|n+1=>(n+1)*rX n
def FZ{f:Nat->Nat->Int} {M:List Int} {row set Z:Nat}:∀(c:Nat)(a p:Int),(p=1∨p=-1)->(∀j,j<c->(f row j).natAbs<=400)->(∀j,j<c->(set>>>j)%2=1->(M.getD (set-2^j) 0).natAbs<=Z)->(eC f M row set c a p).natAbs<=a.natAbs+pop c set*(400*Z)
 |0,a,_,_,_,_=>by unfold eC;omega|c+1,a,p,hs,hf,hM=>by
  unfold eC pop;have y:(-p=1∨-p=-1):=Qa
  split;·rename_i z;have:=FZ c a p hs (fun j u=>hf j Qa) fun j u=>hM j Qa;rw[z,sW];exact this
  .rename_i z;have q:(set>>>c)%2=1:=Qa
   have E:=e4 (hf c Qa) (hM c Qa q);have D:∀h,h.natAbs<=a.natAbs+400*Z->(eC f M row set c h (-p)).natAbs<=a.natAbs+(pop c set+1)*(400*Z):=fun h F=>by have:=FZ c h (-p) y (fun j u=>hf j Qa) fun j u=>hM j Qa;rw[w5];omega
   rw[q];refine D _ ?_;split;·omega
   .rw[Q5];rcases hs with rfl|rfl<;>omega
def H7{f:Nat->Nat->Int} {n:Nat} (E:n<=5)(a:fJ f n):∀s,s<2^n->∀k,k<=s->((dpM f n s).getD k 0).natAbs<=rX (pop n k)*400^pop n k
 |0,_,k,hk=>by
  obtain rfl:k=0:=Qa
  have:∀m,pop m 0=0:=fun m=>by induction m with|zero=>rfl|succ m u=>unfold pop;rw[u];simp
  rw[this];simp[dpM,rX]|s+1,hs,k,hk=>by
  have u:=H7 E a s Qa;have N:=X1 f n s;unfold dpM;by_cases z:k<=s;·rw[zD Qa];exact u k z
  .obtain rfl:k=s+1:=Qa
   rw[pR Qa];have h:n∈List.range 6:=y0.2 Qa;have q:s+1∈List.range (2^n):=y0.2 hs;have G:=zC n h _ q Qa;have H:=l9 n h _ q;unfold eK;have:=FZ (f:=f) (M:=dpM f n s) (row:=pop n (s+1)-1) (set:=s+1) (Z:=rX (pop n (s+1)-1)*400^(pop n (s+1)-1)) n 0 1 (.inl rfl) (fun j y=>a _ _ Qa y) fun j y D=>by obtain⟨I,J⟩:=pQ n h _ q j (y0.2 y) D;have L:=l8 j;have:=u (s+1-2^j) Qa;rwa [show pop n (s+1-2^j)=pop n (s+1)-1 by omega]at this
   refine w7 this ?_;obtain⟨p,F⟩:∃p,pop n (s+1)=p+1:=⟨pop n (s+1)-1,Qa⟩;rw[F];simp only[A7,Int.natAbs_zero,w0,pJ,rX];refine J0 ?_;ac_rfl
def S1{f:Nat->Nat->Int} (j:n<=5)(a:fJ f n):(Z0 f n).natAbs<=1228800000000000:=by
 unfold Z0;have q:=l8 n;have:=H7 j a (2^n-1) Qa (2^n-1) (h' _);refine w7 this ?_;have u:=l9 n (y0.2 Qa) (2^n-1) (y0.2 Qa);have h:pop n (2^n-1)<=5:=Qa
 generalize pop n (2^n-1)=p at h;have:∀p,p<=5->rX p*400^p<=1228800000000000:=Qc
 exact this p h
def pT{r:List (List Int)} (h:D9 r=some (l,den))(a:r.length<=5)(hs:gW r):l.length=r.length/\den.natAbs<=1228800000000000/\0<den/\ZN 1228800000000000 l:=by
 have q:∀j,(Z3 r j).natAbs<=1228800000000000:=fun j=>by have:=S1 a (hs.col (qOf j) r.length);rw[pS]at this;exact this
 have p:∀d x:Int,(x6 d*x).natAbs=x.natAbs:=fun d x=>by unfold x6;split<;>omega
 unfold D9 at h;split at h;·cases h
 rename_i y;obtain⟨rfl,rfl⟩:_/\_:=by simpa using h
 refine⟨Qd,by rw[p];exact q _,?_,fun x u=>?_⟩;·unfold x6;split<;>omega
 .obtain⟨i,-,rfl⟩:=L'.1 u;rw[p];exact q _
def ZO.at'{T:TypeId} {W:World} {B:Nat} (h:ZO T W B l):At 1 Zc W (some ⟨B,0,none⟩) l:=by intro k x q;refine⟨B,0,rfl,h.size,fun j v p=>?_⟩;cases j with|zero=>simp[Zc]at p;subst p;simpa using h.load q|succ j=>simp[Zc]at p
def H8{l:List Int} {K:Nat} (p:ZN K l):∀(t:List Nat)(k:Nat)(W:List Int),ZN K W->ZN K (putW l k t W)
 |[],_,_,h=>h|i::t,k,W,h=>by
  unfold putW;refine H8 p t (k+1) _ fun x j=>?_;rcases Jx j with j|rfl;·exact h x j
  .exact p.get _
def H9(l:List Int):∀(t:List Nat)(k:Nat)(W:List Int)(i:Nat),putW l k (t++[i]) W=(putW l k t W).set i (l.getD (k+t.length+1) 0)|[],k,W,i=>rfl|j::t,k,W,i=>by simp only[hP,putW,r3];rw[H9 l t (k+1) _ i,show k+1+t.length+1=k+(t.length+1)+1 by omega]
def S4(l:List Int) {t:List Nat} {i:Nat} (h:t[k]?=some i):putW l 0 (t.take (k+1)) W=(putW l 0 (t.take k) W).set i (l.getD (k+1) 0):=by have j:k<t.length:=(y'.1 h).1;rw[w9,h];have:=H9 l (t.take k) 0 W i;rwa [C3,Q9 Qa,w0]at this
def S5(j:k<n)(h:l.getD (k+1) 0<0):(List.range n).any (fun k=>l.getD (k+1) 0<0)=true:=by rw[bL];exact⟨k,y0.2 j,by simpa using h⟩
def S6(h:∀k,k<n->¬(l.getD (k+1) 0<0)):(List.range n).any (fun k=>l.getD (k+1) 0<0)=false:=by rw[bN];intro k j;simpa using h k (y0.1 j)
def uK(es:List Ex)(den lev:Int)(W:List Int):∀(ws:List Int)(p:Nat),F2 es den lev W p ws=true↔∀j,j<ws.length->lev<=ws.getD j 0*den+putsL es W (p+j)
 |[],_=>by simp[F2]|w::ws,p=>by
  unfold F2;rw[aY,z1,uK es den lev W ws (p+1)];constructor;·rintro⟨u,y⟩ j q;cases j with|zero=>simpa using u|succ j=>have:=y j (by simpa using q);rwa [show p+1+j=p+(j+1)by omega]at this
  .intro h;refine⟨by simpa using h 0 Qd,fun j q=>?_⟩;have:=h (j+1) (by simpa using q);rwa [show p+(j+1)=p+1+j by omega]at this
def TA{j:Nat} (q:j<ws.length)(h:ws.getD j 0*den+putsL es W j<lev):F2 es den lev W 0 ws=false:=by rw[Bool.eq_false_iff];intro p;have:=(uK es den lev W ws 0).1 p j q;rw[w0]at this;omega
def TB(h:∀j,j<ws.length->¬(ws.getD j 0*den+putsL es W j<lev)):F2 es den lev W 0 ws=true:=(uK es den lev W ws 0).2 fun j p=>by have:=h j p;rw[w0];omega
def zG(b:0<g)(a:g∣x):x.tdiv g=x / g/\(x / g).natAbs<=x.natAbs:=by
 obtain⟨y,rfl⟩:=a;have h:g≠0:=Qa
 rw[Int.mul_tdiv_cancel_left _ h,Int.mul_ediv_cancel_left _ h];refine⟨rfl,?_⟩;rw[gY];exact Nat.le_mul_of_pos_left _ Qa
def kN{K:Nat} (a:0<g)(d:g∣x)(f:x.natAbs<=K)(p:K<=9000000000000000000):IntKind.i64.wrap (x.tdiv g)=x / g:=by obtain⟨h,j⟩:=zG a d;rw[h];exact j0 _ Qa
def TC{w:World} {R base:Nat} (h:ZO 3 w R l)(j:l.length=n)(p:n<=1000)(hb:base<=R):w.ownsRow base 3 1 (.slice (some R) n n) n (l.map (Value.int .i64)):=by refine⟨by simpa using j,.inr ⟨R,n,_,rfl,hb,h,h' _,Qq,by rw[yS];omega,?_⟩⟩;simp only[h9,w8,M0,List.toList_toArray];rw[g' Qk]
def zH(h:k<W.length):(((W.take k).map (· / g))++W.drop k).set k (W.getD k 0 / g)=(W.take (k+1)).map (· / g)++W.drop (k+1):=by have j:=k2 h;rw[h6,j,w9,j,l4 h,hZ _ _ Qk,b3,n7];rw[show k-((W.take k).map (· / g)).length=0 from Qk];rfl
def zI(h:k<W.length):(((W.take k).map (· / g))++W.drop k)[k]?=some (W.getD k 0):=by rw[aO Qk];simp[Q9 (Nat.le_of_lt h),h6,h]
end Go.Proofs
namespace Go.Proofs
open Tryz
open Go.RowKit
def zJ(s:ByteArray)(w:World)(b:s.size<=9223372036854775807):Calls prog 75 #[.string s] w fun e a=>e=.returned (c6 s.data.toList)/\w=a:=by
  have h:Hid (s.data.toList.length=s.size):=by simp[Hid]
  by_cases O:s.size<1
  . have L:(s.size:Int)<1:=Qa
    have z:c6 s.data.toList=false:=by unfold c6;rw[h.out];simp;omega
    rw[z];clear z h;go_enter func75,ntmps75;go_wp2;go_ret;exact⟨rfl,rfl⟩
  . have L:¬(s.size:Int)<1:=Qa
    by_cases R:12<s.size
    . have N:12<(s.size:Int):=Qa
      have z:c6 s.data.toList=false:=by unfold c6;rw[h.out];simp;omega
      rw[z];clear z h;go_enter func75,ntmps75;go_wp2;go_ret;exact⟨rfl,rfl⟩
    . have N:¬12<(s.size:Int):=Qa
      go_enter func75,ntmps75;go_wp2;go_loop [3] (fun i=>∃k:Nat,k<=s.size/\i=.int .i64 k/\Hid (∀j,j<k->bB j ((s.data.toList.getD j 0).toNat:Int)=true))(fun i=>s.size-(intOf i).toNat);case atStart=>exact⟨0,e6 _,rfl,fun j F=>Qa⟩
      case round=>
        obtain⟨k,S,rfl,y⟩:=hrel;by_cases q:k<s.size
        . obtain⟨c,J⟩:∃c:UInt8,s[k]'q=c:=⟨_,rfl⟩;have p:Hid (s.data.toList.getD k 0=c):=by unfold Hid;rw[<-J,h6,k2 (by rw[h.out];exact q)];simp;rfl
          have I:(0:Int)<=(c.toNat:Int):=Qa
          by_cases D:k=0
          . have G:((k:Int)==0)=true:=by simp[D]
            have u:=i' D;clear D;go_wp2;all_goals first
              |(exfalso;have:=u.out;simp at*;omega)
              | (go_round;case rel=>exact⟨k+1,Qa,Qj,tZ y p (uB _ _ (by have:=u.out;simp at*;omega))⟩
                 case measure=>simp[intOf];omega)|(go_ret;exact⟨bW (uA (k:=k) h q p (uC _ _ (by have:=u.out;simp at*;omega))).symm,rfl⟩)
          . have G:((k:Int)==0)=false:=by simp[D]
            go_wp2;all_goals first
              |(exfalso;simp at*;omega)
              | (go_round;case rel=>exact⟨k+1,Qa,Qj,tZ y p (uB _ _ (by simp at*;omega))⟩
                 case measure=>simp[intOf];omega)|(go_ret;exact⟨bW (uA (k:=k) h q p (uC _ _ (by simp at*;omega))).symm,rfl⟩)
        . have H:k=s.size:=Qa
          subst H;have E:eR s.data.toList=true:=yP _ (fun j F=>y.out j (by rw[h.out]at F;exact F));have z:c6 s.data.toList=true:=by unfold c6;rw[E,h.out];simp;omega
          go_wp2;go_ret;exact⟨rfl,rfl⟩
def eG(b a m:Int):Int:=Z4 [unl (Z6 b 0 m&&Z6 a 0 m) 2,unl (decide (b<=a)) 9]
end Go.Proofs
namespace Go.Proofs
open Go.RowKit
section
variable {P:Program} {ops:Array Oper}
def bK(ops:Array Oper):Bool:=(List.range ops.size).all fun i=>match ops[i]? with|none=>true|some o=>((o.looksAt ops).all fun s=>(List.range ops.size).all fun j=>match ops[j]? with|none=>true| some oj => oj.dst != some s || (decide (j < i) && o.after.any fun e => Region.binds .any e && e.on == j)) && ((List.range ops.size).all fun j=>match ops[j]? with|none=>true| some oj => j == i || o.dst.isNone || oj.dst != o.dst) && (o.after.all fun e=>!Region.binds .any e||decide (e.on<i))
structure SlotsOk (ops:Array Oper):Prop where
 look:∀(i:Nat)(o:Oper)(s j:Nat)(oj:Oper),ops[i]?=some o->s∈o.looksAt ops->ops[j]?=some oj->oj.dst=some s->j<i/\∃e∈o.after,Region.binds .any e=true/\e.on=j
 dst:∀(i j:Nat)(o oj:Oper)(s:Nat),ops[i]?=some o->ops[j]?=some oj->o.dst=some s->oj.dst=some s->j=i
 after:∀(i:Nat)(o:Oper)(e:Edge),ops[i]?=some o->e∈o.after->Region.binds .any e=true->e.on<i
def E5{i:Nat} {o:Oper} (h:ops[i]?=some o):i<ops.size:=(bO.1 h).1
def IA(h:bK ops=true):SlotsOk ops:=by
 unfold bK at h;simp only[bJ,y0]at h;refine⟨fun i o s j I a H u z=>?_,fun i j o I s a u z D=>?_,fun i o e a E y=>?_⟩;·have p:=h i (E5 a);simp only[a,aY,bJ,y0]at p;have q:=p.1.1 s H j (E5 u);simp only[u,z,dU,aY,z1,bne_self_eq_false,l3,false_or]at q;obtain⟨F,G⟩:=q;obtain⟨e,E,y⟩:=Array.any_eq_true'.1 G;simp only[aY,bY]at y;exact⟨F,e,E,y⟩
 .have p:=h i (E5 a);simp only[a,aY,bJ,y0]at p;have q:=p.1.2 j (E5 u);simpa [u,z,D] using q
 .have p:=h i (E5 a);simp only[a,aY]at p;have q:=bZ.1 p.2 e E;simpa [y] using q
def TD{a b:Act} (h:a.defers=b.defers)(j:∀s:Nat,a.tmps[s]?=b.tmps[s]?):a=b:=by obtain⟨t,d⟩:=a;obtain⟨p,q⟩:=b;dsimp only at h j;subst h;have:t=p:=cF j;subst this;rfl
def TE{a b:Act} {x:Operand} (h:∀t:Nat,x=.tmp t->a.tmps[t]?=b.tmps[t]?):a.eval x=b.eval x:=by cases x with|tmp t=>have:=h t rfl;simp[Act.eval,this]|_=>rfl
def zK{o:Oper} {a b:Act} (j:∀cs b,o.op≠.select cs b)(h:∀s∈o.looksAt ops,a.tmps[s]?=b.tmps[s]?):execOp a.eval o=execOp b.eval o:=execOp_congr o j fun x q=>TE fun t p=>h t (by subst p;exact sF _ (List.mem_filterMap.2 ⟨.tmp t,by simpa using q,rfl⟩))
def zL{o:Oper} {a b:Act} (h:∀s∈o.looksAt ops,a.tmps[s]?=b.tmps[s]?):Region.wanted o (yielded ops a.tmps)=Region.wanted o (yielded ops b.tmps):=by unfold Region.wanted;cases p:o.guard with
 |none=>rfl|some gw=>
  obtain⟨g,j⟩:=gw;have u:yielded ops a.tmps g=yielded ops b.tmps g:=by unfold yielded;cases q:(ops[g]?).bind (·.dst)with
   |none=>rfl|some t=>have:=h t (by simp[Oper.looksAt,p,q]);simp[this]
  simp only[u]
def zM{C:World->Prop} {o:Oper} {v:Value} {a b:Act} (j:∀cs b,o.op≠.select cs b)(h:∀s∈o.looksAt ops,a.tmps[s]?=b.tmps[s]?)(p:YieldsIn P ops C o v a):YieldsIn P ops C o v b:=p.of_same (zK j h).symm (zL h).symm
def nA{a:Act} {d:Option Tmp} {v:Value} {s:Nat} (h:d≠some s):(a.put d v).tmps[s]?=a.tmps[s]?:=by cases d with|none=>rfl|some d=>have j:d≠s:=fun e=>h (by rw[e]);simp[Act.put,h2 j]
def nB{a:Act} {d:Option Tmp} {v:Value}:(a.put d v).tmps.size=a.tmps.size:=by cases d<;>simp[Act.put]
def pU{a:Act} {d:Option Tmp} {v:Value}:(a.put d v).defers=a.defers:=by cases d<;>rfl
def pV{a:Act} {d:Nat} {v:Value} (h:d<a.tmps.size):(a.put (some d) v).tmps[d]?=some v:=by simp[Act.put,h]
def zN{a:Act} {d:Nat} {v:Value} (h:¬d<a.tmps.size):(a.put (some d) v).tmps[d]?=none:=by simp[Act.put];omega
def IB(H:SlotsOk ops)(y:∀(j:Nat)(o:Oper) cs b,ops[j]?=some o->o.op≠.select cs b) {C:World->Prop} {q:Act}:∀(l:List Oper)(k:Nat)(a:Act),(∀j,l[j]?=ops[k+j]?)->wpQuiet P ops C (fun F=>F=q) l a->(∀i o,k<=i->ops[i]?=some o->∃v,YieldsIn P ops C o v q/\∀d,o.dst=some d->d<q.tmps.size->q.tmps[d]?=some v)/\a.tmps.size=q.tmps.size/\a.defers=q.defers/\∀s,(∀j p,k<=j->ops[j]?=some p->p.dst≠some s)->a.tmps[s]?=q.tmps[s]?
 |[],k,a,hl,h=>by have X:a=q:=h;subst X;refine⟨fun i o c z=>?_,rfl,rfl,fun s _=>rfl⟩;have:=hl (i-k);rw[show k+(i-k)=i by omega,z]at this;simp at this|o::rest,k,a,hl,h=>by
  have u:ops[k]?=some o:=by simpa using (hl 0).symm
  have Z:qOp P ops C k (wpQuiet P ops C (fun F=>F=q) rest) a:=by unfold qOp;simp only[u];exact h
  obtain⟨v,e,Y⟩:=yieldsIn_of_qOp u Z;obtain⟨f,U,g,R⟩:=IB H y rest (k+1) (a.put o.dst v) (fun j=>by have:=hl (j+1);rw[nK]at this;rw[this];congr 1;omega) Y;have G:∀s∈o.looksAt ops,a.tmps[s]?=q.tmps[s]?:=fun s E=>by
   have S:∀j p,k<=j->ops[j]?=some p->p.dst≠some s:=fun j p L z D=>by have:=(H.look k o s j p u E z D).1;omega
   rw[<-R s (fun j p L=>S j p Qa),nA (S k o (h' _) u)]
  refine⟨fun i V c z=>?_,by rw[<-U,nB],by rw[<-g,pU],fun s E=>?_⟩
  .by_cases J:i=k;·subst J;obtain rfl:o=V:=D3 (u.symm.trans z);refine⟨v,zM (y _ _ · · u) G e,fun d D N=>?_⟩;rw[<-R d (fun j p L O I=>by have:=H.dst i j o p d u O D I;omega),D];exact pV (by rw[<-nB (a:=a) (d:=o.dst) (v:=v),U];exact N)
   .exact f i V Qa z
  .rw[<-R s (fun j p L=>E j p Qa),nA (E k o (h' _) u)]
def sV(n:Nat)(h:Array Bool):Nat:=((List.range n).filter fun j=>!h.getD j true).length
def IC{α:Type} {p q:α->Bool}:∀(l:List α),(∀x,q x=true->p x=true)->(l.filter q).length<=(l.filter p).length
 |[],_=>h' _|x::l,h=>by
  have u:=IC l h;simp only[aQ];by_cases j:q x=true;·rw[r4 j,r4 (h x j)];simpa using u
  .rw[Zc9 j];split;·simp only[r3];omega
   .exact u
def ID{α:Type} {p q:α->Bool}:∀(l:List α),(∀x,q x=true->p x=true)->(∃x∈l,p x=true/\q x=false)->(l.filter q).length<(l.filter p).length
 |[],_,h=>by obtain⟨x,z,_⟩:=h;cases z|y::l,h,z=>by
  obtain⟨x,u,D,E⟩:=z;simp only[aQ];rcases ZA1.1 u with rfl|u;·rw[Zc9 (by rw[E];decide),r4 D];have:=IC l h;simp only[r3];omega
  .have F:=ID l h ⟨x,u,D,E⟩;by_cases j:q y=true;·rw[r4 j,r4 (h y j)];simpa using F
   .rw[Zc9 j];split;·simp only[r3];omega
    .exact F
def IE{n i:Nat} {p:Array Bool} (a:i<n)(h:p.getD i true=false):sV n (p.setIfInBounds i true)<sV n p:=by
 refine ID _ (fun j u=>?_) ⟨i,y0.2 a,by simp[h],?_⟩
 .by_cases q:i=j;·subst q;simp[h]
  .rw[gM true q]at u;exact u
 .have:(p.setIfInBounds i true).getD i true=true:=by simp only[fX,bD];by_cases y:i<p.size<;>simp[y]
  rw[this];rfl
end
section
variable {P:Program} {ops:Array Oper}
def iO(ops:Array Oper)(h:Array Bool)(a b:Act):Prop:=a.tmps.size=b.tmps.size/\a.defers=b.defers/\∀s:Nat,(∀(j:Nat)(p:Oper),ops[j]?=some p->p.dst=some s->h.getD j true=true)->a.tmps[s]?=b.tmps[s]?
def lU{p:Array Bool} {j:Nat} (h:p.getD j false=true):p.getD j true=true:=by
 rcases gK j p.size with q|q;·simp[q]at h |-;exact h
 .simp[eM q]at h
def TG(H:SlotsOk ops) {p:Array Bool} {a b:Act} (h:iO ops p a b) {i:Nat} {o:Oper} (c:ops[i]?=some o)(G:i∈Region.ready .any ops p):∀s∈o.looksAt ops,a.tmps[s]?=b.tmps[s]?:=fun s I=>h.2.2 s fun j L F D=>by obtain⟨_,e,E,z,y⟩:=H.look i o s j L c I F D;obtain⟨_,J,u,q⟩:=fQ.1 G;obtain rfl:o=J:=D3 (c.symm.trans u);have:=q e E z;rw[y]at this;exact lU this
def IF(H:SlotsOk ops) {p:Array Bool} {a b:Act} (h:iO ops p a b) {i:Nat} {o:Oper} (c:ops[i]?=some o) {v:Value} (d:∀s,o.dst=some s->s<b.tmps.size->b.tmps[s]?=some v):iO ops (p.setIfInBounds i true) (a.put o.dst v) b:=by
 refine⟨by rw[nB];exact h.1,by rw[pU];exact h.2.1,fun s F=>?_⟩;by_cases y:o.dst=some s
 .rw[y];by_cases q:s<b.tmps.size;·rw[pV (by rw[h.1];exact q),d s y q]
  .rw[zN (by rw[h.1];exact q),eM Qa]
 .rw[nA y];refine h.2.2 s fun j E D u=>?_;have z:i≠j:=by rintro rfl;obtain rfl:o=E:=D3 (c.symm.trans D);exact y u
  have:=F j E D u;rwa [gM true z]at this
def above(u:World):World->Prop:=fun x=>QB u x
def Before(ops:Array Oper)(w:World)(m k:Nat)(j:Act)(h:Array Bool)(a:Act)(x:World):Prop:=h.getD m true=false/\h.getD k true=false/\iO ops h a j/\QB w x
def TH{C:World->Prop} {Q:Exit->Act->World->Prop} {i:Nat} {o:Oper} {v:Value} {a:Act} {x:World} {K:Act->World->Prop} (c:ops[i]?=some o)(y:YieldsIn P ops C o v a)(q:C x)(h:∀b,C b->K (a.put o.dst v) b):wpOp P ops Q i K a x:=wpOp_of_qOp (K:=fun p=>p=a.put o.dst v) q (fun p d j u=>by subst u;exact h d j) (y.qOp c rfl)
def TI(H:SlotsOk ops) {p:Array Bool} (a:p.size=ops.size)(h:Region.ready .any ops p=[]):∀j,j<ops.size->p.getD j true=true:=by intro j;induction j using Nat.strongRecOn with|_ j ih=>intro u;cases F:p.getD j true with
  |true=>rfl|false=>exfalso;have:j∈Region.ready .any ops p:=fQ.2 ⟨F,ops[j],y1 u,fun e E D=>by
    have y:=H.after j _ e (y1 u) E D;have q:=ih e.on y Qa;have z:e.on<p.size:=Qa
    simp[z]at q |-;exact q⟩;rw[h]at this;cases this
def TJ{p:Array Bool} {a b:Act} (h:iO ops p a b)(c:∀j,j<ops.size->p.getD j true=true):a=b:=TD h.2.1 fun s=>h.2.2 s fun j u q _=>c j (E5 q)
end
def TK(u:World):above u=fun a=>∃x:Grew u,a=x.val:=by funext a;exact propext ⟨fun h=>⟨⟨a,h⟩,rfl⟩,fun⟨x,j⟩=>by subst j;exact x.ok⟩
section
variable {P:Program} {ops:Array Oper}
def pW{h:Array Bool} (j:Nat):(h.setIfInBounds j true).getD j true=true:=by simp only[fX,bD];by_cases p:j<h.size<;>simp[p]
end
section
variable {P:Program} {ops:Array Oper}
def yieldsC(v:Value)(o:Oper):Oper:={o with op:=.move (.const v)}
end
section
variable {P:Program} {ops:Array Oper}
structure Gh where
 b:Nat
 a1:Option Addr
 a2:Option Addr
 a3:Option Addr
 c1:Nat
 c2:Nat
 c3:Nat
def Gh.zero:Gh:=⟨0,none,none,none,0,0,0⟩
def upd(g:Nat->Gh)(j:Nat)(h:Gh):Nat->Gh:=fun k=>if k=j then h else g k
def bU(L:Nat->Bool)(j:Nat):Nat->Bool:=fun k=>k==j||L k
def mixL(sp:List Nat)(h:Nat->Gh->Value)(g:Nat->Gh):Nat->List Oper->List Oper|_,[]=>[]|i,o::l=>(if sp.contains i then yieldsC (h i (g i)) o else o)::mixL sp h g (i+1) l
def F4(a:List Nat) (h:Nat->Gh->Value) (g:Nat->Gh):∀(l:List Oper) (i j:Nat),(mixL a h g i l)[j]?=(l[j]?).map fun o=>if a.contains (i+j)then yieldsC (h (i+j) (g (i+j))) o else o|[],i,j=>by simp[mixL]|o::l,i,0=>by simp[mixL]|o::l,i,j+1=>by simp only[mixL,nK];rw[F4 a h g l (i+1) j];congr 2;funext o;rw[show i+1+j=i+(j+1)by omega]
def bR(ops:Array Oper)(j:Nat):Nat->List Oper->List Nat->List Nat|_,[],acc=>acc|i,o::l,acc=>bR ops j (i+1) l (if i==j||(o.looksAt ops).any acc.contains then (match o.dst with|some d=>d::acc|none=>acc)else acc)
def IG{j:Nat} {G:Nat->Prop} (y:∀(i:Nat)(o:Oper)(d:Nat),ops[i]?=some o->o.dst=some d->(i=j∨∃s∈o.looksAt ops,G s)->G d):∀(l:List Oper)(i:Nat)(a:List Nat),(∀k,l[k]?=ops[i+k]?)->(∀d∈a,G d)->∀d∈bR ops j i l a,G d
 |[],i,a,_,ha,d,hd=>ha d hd|o::l,i,a,hl,ha,d,hd=>by
  unfold bR at hd;refine IG y l (i+1) _ (fun k=>by have:=hl (k+1);rw[nK]at this;rw[this];congr 1;omega) ?_ d hd;intro u p;split at p;·rename_i z;cases q:o.dst with|none=>rw[q]at p;exact ha u p|some e=>
    rw[q]at p;rcases ZA1.1 p with rfl|F
    .refine y i o u (by simpa using (hl 0).symm) q ?_;simp only[dU,bY,bL,List.contains_iff_mem]at z;rcases z with h|⟨s,D,E⟩;·exact .inl h
     .exact .inr ⟨s,D,ha s E⟩
    .exact ha u F
  .exact ha u p
def bM(cs:List Nat):Nat->List Value->List Value|_,[]=>[]|i,v::l=>(if cs.contains i then undef else v)::bM cs (i+1) l
def IH(cs:List Nat):∀(l:List Value)(i s:Nat),(bM cs i l)[s]?=(l[s]?).map fun v=>if cs.contains (i+s)then undef else v|[],i,s=>by simp[bM]|v::l,i,0=>by simp[bM]|v::l,i,s+1=>by simp only[bM,nK];rw[IH cs l (i+1) s];congr 2;funext v;rw[show i+1+s=i+(s+1)by omega]
def TL{cs:List Nat} {t j:Array Value} (h:bM cs 0 t.toList=bM cs 0 j.toList) {s:Nat} (a:s∉cs):t[s]?=j[s]?:=by
 have:=w6 (fun l=>l[s]?) h;simp only[IH,w0]at this;have p:cs.contains s=false:=by simpa using a
 rw[p]at this;simpa using this
def bT(P:Program)(K:Value->World->Prop):Result Next->Prop|.ok (.value v) x=>K v x|.ok .skip x=>K undef x|.ok (.enter f args) x=>Calls P f args x fun e a=>∃v,e=.returned v/\K v a|_=>False
def TM{o:Oper} {a:Act} {x:World} {K:Value->World->Prop} {N:Act->World->Prop} {Q:Exit->Act->World->Prop} (h:bT P K ((execOp a.eval o).run P x))(b:∀v c,K v c->N (a.put o.dst v) c):o.wp P a x N Q:=by unfold Oper.wp;cases j:(execOp a.eval o).run P x with
 |ok n c=>rw[j]at h;cases n with
  |value v=>exact b _ _ h|skip=>exact b _ _ h|enter f args=>rw[Oper.upon_enter];refine Calls.mono h ?_;rintro e q ⟨v,rfl,p⟩;exact b _ _ p|_=>exact h.elim
 |_=>rw[j]at h;exact h.elim
def P3{K:Value->World->Prop} {r:Result Next} {v:Value} {x:World} (j:r=.ok (.value v) x)(h:K v x):bT P K r:=by subst j;exact h
def gN{K:Value->World->Prop} {r:Result Next} {x:World} (j:r=.ok .skip x)(h:K undef x):bT P K r:=by subst j;exact h
def Q0{K:Value->World->Prop} {r:Result Next} {x:World} {f:FuncId} {c:Array Value} (j:r=.ok (.enter f c) x)(h:Calls P f c x fun e d=>∃v,e=.returned v/\K v d):bT P K r:=by subst j;exact h
def spB(ops:Array Oper)(a:List Nat):Bool:=a.all fun j=>match ops[j]? with|some o=>o.guard.isNone|none=>false
def E7(ops:Array Oper)(C:World->Prop)(J:(Nat->Bool)->(Nat->Gh)->World->Prop)(p:(Nat->Gh)->Act)(h:Array Bool)(a:Act)(x:World):Prop:=C x/\(∀(i:Nat)(o:Oper),ops[i]?=some o->h.getD i true=true->∀e∈o.after,Region.binds .any e=true->h.getD e.on true=true)/\∃g,iO ops h a (p g)/\J (fun j=>h.getD j true) g x
def TN(h:Array Bool)(i:Nat):(fun j=>(h.setIfInBounds i true).getD j true)=bU (fun j=>h.getD j true) i:=funext fun j=>by
 unfold bU;by_cases p:i=j;·subst p;rw[pW,BEq.rfl,p']
 .rw[gM true p];have:(j==i)=false:=by simpa using fun e=>p e.symm
  rw[this,p0]
end
structure OnlyB (b:Nat)(x x':World):Prop where
 below:∀n,n<=b->Below n x x'
 other:∀k,k≠b->x'.heap[k]?=x.heap[k]?
def OnlyB.refl(b:Nat)(x:World):OnlyB b x x:=⟨fun n _=>q' n x,fun _ _=>rfl⟩
def OnlyB.set{b:Nat} {x d:World} (h:OnlyB b x d)(o:Nat)(u:Value):OnlyB b x (d.setCell ⟨b,o,none⟩ u):=⟨fun n p=>(h.below n p).setCell p u,fun k j=>(hH d ⟨b,o,none⟩ u k j).trans (h.other k j)⟩
def OnlyB.keep{b:Nat} {x d:World} (h:OnlyB b x d) {k:Nat} {o:Obj} (j:k≠b)(f:x.heap[k]?=some o):d.heap[k]?=some o:=(h.other k j).trans f
def ZK{L:Nat->Bool} {j k:Nat} (h:k≠j):bU L j k=L k:=by
 unfold bU;have:(k==j)=false:=by simpa using h
 rw[this,p0]
def A8{L:Nat->Bool} {j:Nat}:bU L j j=true:=by simp[bU]
def upd_ne{g:Nat->Gh} {j k:Nat} {h:Gh} (p:k≠j):upd g j h k=g k:=by unfold upd;rw[Zc9 p]
def e0{g:Nat->Gh} {j:Nat} {h:Gh}:upd g j h j=h:=by unfold upd;rw[r4 rfl]
section
variable {P:Program}
end
def nC{P:Program} {f:Operand->Value} {o:Oper} {t d:TypeId} {p q:Operand} {b:Nat} {v0 v1 u0 u1:Value} {x:World} (y:o.op=.store t p q)(h0:v0.oneCell'=true)(u:v1.oneCell'=true)(h:Sem.run P (sizeOf t) x=.ok 2 x)(a:f p=.pointer (some b))(hq:f q=.agg #[v0,v1])(c:x.heap[b]?=some (.cells #[u0,u1] d)):(execOp f o).run P x=.ok .skip ((x.setCell ⟨b,0,none⟩ v0).setCell ⟨b,1,none⟩ v1):=by have j:=bk2 c;unfold execOp;rw[y];simp[go_sem,a,hq,j,h,kG _ _ _ v0 _ h0,kG _ _ _ v1 _ u]
def iC{P:Program} {f:Operand->Value} {o:Oper} {t d:TypeId} {p q:Operand} {b:Nat} {v0 v1 v2 u0 u1 u2:Value} {x:World} (z:o.op=.store t p q)(h0:v0.oneCell'=true)(u:v1.oneCell'=true)(y:v2.oneCell'=true)(h:Sem.run P (sizeOf t) x=.ok 3 x)(hp:f p=.pointer (some b))(hq:f q=.agg #[v0,v1,v2])(a:x.heap[b]?=some (.cells #[u0,u1,u2] d)):(execOp f o).run P x=.ok .skip (((x.setCell ⟨b,0,none⟩ v0).setCell ⟨b,1,none⟩ v1).setCell ⟨b,2,none⟩ v2):=by have j:=bk3 a;unfold execOp;rw[z];simp[go_sem,hp,hq,j,h,kG _ _ _ v0 _ h0,kG _ _ _ v1 _ u,kG _ _ _ v2 _ y]
section
variable {P:Program}
end
def TO{w x c:World} {a:Option Nat} (h:QB w x)(j:x.grownBy c a)(p:∀b,a=some b->w.heap.size<=b):QB w c:=h.grown j h.size p
section
variable {P:Program}
def TP(v:Value) (c:v.oneCell'=true) (x:World) (b o:Nat) (u:Value) (h:x.cell? ⟨b,o,none⟩=some u) (a:x.frozen? ⟨b,o,none⟩=false):(store ⟨b,o,none⟩ v).run P x=.ok () (x.setCell ⟨b,o,none⟩ v):=by cases v<;>first|(simp[Value.oneCell']at c;done)|simp[store,Sem.run,h,a]
def uL(b:Nat)(T:TypeId):∀(a:List Value)(i:Nat)(cs:List Value)(x:World),x.heap[b]?=some (.cells cs.toArray T)->i+a.length<=cs.length->(∀u∈a,u.oneCell'=true)->∃c,(storeCells ⟨b,0,none⟩ a i).run P x=.ok () c/\c.heap[b]?=some (.cells (cs.take i++a++cs.drop (i+a.length)).toArray T (0,0))/\x.grownBy c (some b)/\c.heap.size=x.heap.size
 |[],i,cs,x,hx,_,_=>⟨x,by simp[storeCells,Sem.run,pure],by simpa using hx,⟨rfl,rfl,rfl,h' _,fun _ _ _=>rfl⟩,rfl⟩|v::a,i,cs,x,hx,hl,h1=>by
  simp only[r3]at hl;have y:x.cell? ⟨b,i,none⟩=some (cs[i]'Qa):=by unfold World.cell?;simp only[hx];simp[k2 (show i<cs.length by omega)]
  have z:x.frozen? ⟨b,i,none⟩=false:=by unfold World.frozen?;simp only[hx];simp
  have D:=TP (P:=P) v (h1 v Qd) x b i _ y z;have j:(x.setCell ⟨b,i,none⟩ v).heap[b]?=some (.cells (cs.set i v).toArray T (0,0)):=ZJ hx v Qd;obtain⟨c,F,G,H,I⟩:=uL b T a (i+1) (cs.set i v) _ j Qk fun u E=>h1 u (by simp[E]);refine⟨c,?_,?_,?_,by rw[I];simp⟩
  .unfold storeCells;have e:(⟨b,0,none⟩:Addr).add i=⟨b,i,none⟩:=by unfold Addr.add;split<;>simp_all
   rw[e];simp only[aC,D,aA];exact F
  .rw[G];congr 2;apply w6;have p:(cs.set i v).take (i+1)=cs.take i++[v]:=by rw[w9,List.getElem?_set_self Qa,mW];rw[List.set_eq_of_length_le (by simp[Nat.min_le_left])];rfl
   have q:(cs.set i v).drop (i+1+a.length)=cs.drop (i+1+a.length):=by rw[List.drop_set_of_lt Qa]
   rw[p,q];simp only[r3,n7,hP,s0];congr 4;omega
  .exact World.grownBy.trans (b:=x.setCell ⟨b,i,none⟩ v) ⟨rfl,rfl,rfl,Qd,fun k J h=>hH x ⟨b,i,none⟩ v k fun e=>h (by rw[e])⟩ H
def uM(b:Nat)(T:TypeId)(cs:List Value)(x:World)(c:x.heap[b]?=some (.cells cs.toArray T)):∀(n i:Nat)(a:Array Value),i+n<=cs.length->(loadCellsFrom ⟨b,0,none⟩ i n a).run P x=.ok (a++((cs.drop i).take n).toArray) x
 |0,i,a,_=>by simp[loadCellsFrom,Sem.run,pure]|n+1,i,a,h=>by
  have j:x.cell? ⟨b,i,none⟩=some (cs[i]'Qa):=by unfold World.cell?;simp only[c];simp[k2 (show i<cs.length by omega)]
  unfold loadCellsFrom;have e:(⟨b,0,none⟩:Addr).add i=⟨b,i,none⟩:=by unfold Addr.add;split<;>simp_all
  rw[e];have p:(load ⟨b,i,none⟩).run P x=.ok (cs[i]'Qa) x:=by simp[load,Sem.run,j]
  simp only[aC,p,aA];rw[uM b T cs x c n (i+1) _ Qa];rw[l4 (show i<cs.length by omega),m'];simp
variable {ops:Array Oper} {rest:List Oper} {o:Oper} {a:Act} {Q:Exit->Act->World->Prop}
def N0{w:World} (j:o.guard=none)(p q:Operand)(t:TypeId)(G:o.op=.store t p q)(b:Nat)(d cs:List Value)(T:TypeId)(g:a.eval p=.pointer (some b))(hq:a.eval q=.agg d.toArray)(y:(sizeOf t).run P w=.ok d.length w)(hb:w.heap[b]?=some (.cells cs.toArray T))(F:cs.length=d.length)(D:∀u∈d,u.oneCell'=true)(h:∀e,e.heap[b]?=some (.cells d.toArray T)->w.grownBy e (some b)->e.heap.size=w.heap.size->wpList P ops Q rest (a.put o.dst undef) e):wpList P ops Q (o::rest) a w:=by
 obtain⟨f,H,I,J,L⟩:=uL (P:=P) b T d 0 cs w hb Qa D;refine k8 j fun K E=>?_;unfold Oper.wp execOp;have z:(storeVar t ⟨b,0,none⟩ (.agg d.toArray)).run P w=.ok () f:=by unfold storeVar;simp only[aC,y,aA,Value.cells,M0,gI,Q7,Zyk];exact H
 simp only[G,Instr.storeAt,Instr.sureAddr,g,hq,aC,aB,aA,z];refine E _ _ (h f ?_ J L);rw[I];congr 2;apply w6;simp[F]
def y5{w:World} {t:TypeId} {b:Nat} {cs:List Value} {T:TypeId} (h:(isAgg t).run P w=.ok true w)(j:(sizeOf t).run P w=.ok cs.length w)(hb:w.heap[b]?=some (.cells cs.toArray T)):(loadVar t ⟨b,0,none⟩).run P w=.ok (.agg cs.toArray) w:=by unfold loadVar loadCells;simp only[aC,h,j,aA,Zyl];rw[uM b T cs w hb cs.length 0 #[] Qa];simp[Sem.run,pure]
def kY{w:World} (q:o.guard=none)(p:Operand)(t:TypeId)(D:o.op=.load t p)(b:Nat)(cs:List Value)(T:TypeId)(c:a.eval p=.pointer (some b))(j:(isAgg t).run P w=.ok true w)(u:(sizeOf t).run P w=.ok cs.length w)(hb:w.heap[b]?=some (.cells cs.toArray T))(h:wpList P ops Q rest (a.put o.dst (.agg cs.toArray)) w):wpList P ops Q (o::rest) a w:=by
 refine k8 q fun K z=>?_;unfold Oper.wp execOp;have y:(loadVar t ⟨b,0,none⟩).run P w=.ok (.agg cs.toArray) w:=by unfold loadVar loadCells;simp only[aC,j,u,aA,Zyl];rw[uM b T cs w hb cs.length 0 #[] Qa];simp[Sem.run,pure]
 simp only[D,Instr.loadAt,Instr.sureAddr,c,aC,aB,aA,y];exact z _ _ h
def a7(b:Addr)(w:World):(asAddr (.pointer (some b))).run P w=.ok b w:=rfl
def fK{fn:Func} {p:Tmp} {ty:TypeId} (h:fn.results=#[.cell p ty]) {j:Array Value} {w:World} {ad:Addr} {v:Value} (u:j.getD p undef=.pointer (some ad))(q:(loadVar ty ad).run P w=.ok v w):(results fn j).run P w=.ok v w:=by unfold results;rw[h];simp only[Bz,fA,fB,u,aC,aB,a7,aA,q,bind_assoc,pure_bind,Cl];rfl
def b4{fn:Func} {p u:Tmp} {d:TypeId} (h:fn.results=#[.cell p d,.tmp u]) {j:Array Value} {w:World} {ad:Addr} {v:Value} (y:j.getD p undef=.pointer (some ad))(q:(loadVar d ad).run P w=.ok v w):(results fn j).run P w=.ok (.tuple #[v,j.getD u undef]) w:=by unfold results;rw[h];simp only[Bz,fA,fB,y,aC,aB,a7,aA,q,bind_assoc,pure_bind,Cl];rfl
end
open Tryz
def hT(n m:Int):Bool:=Z6 n (-m) m
def pX(n m:Int)(w:World)(c:m.natAbs<=9000000000000000000):Calls prog 44 #[n,m] w fun e b=>e=.returned (hT n m)/\w=b:=by have h:IntKind.i64.wrap (-m)=-m:=j0 _ Qa;go_enter func44,ntmps44;go_wp2_with (go_at_call 22;refine(dA _ _ _ _).mono ?_;rintro e b ⟨rfl,rfl⟩);go_ret;exact⟨rfl,rfl⟩
def II(n b:Int)(w:World)(a:0<b)(y:n.natAbs<=9000000000000000000):Calls prog 66 #[n,b] w fun e c=>e=.returned (.int .i64 (n / b))/\w=c:=by
 have j:¬b=0:=Qa
 have p:(b==0)=false:=by simpa using j
 have z:(n.tdiv b).natAbs<=n.natAbs:=by rw[Int.natAbs_tdiv];exact pL _ _
 have q:IntKind.i64.wrap (n.tdiv b)=n.tdiv b:=j0 _ Qa;by_cases h:n.tmod b<0;·have u:IntKind.i64.wrap (n.tdiv b-1)=n.tdiv b-1:=j0 _ Qa;go_enter func66,ntmps66;go_wp2;go_ret;exact⟨aR (Q6 n b a h),rfl⟩
 .go_enter func66,ntmps66;go_wp2;go_ret;exact⟨aR (Q8 n b a Qa),rfl⟩
def fM(n b:Int):Int:=(gcdL 0 [n,b]:Int)
def TQ(n b:Int)(a:0<b):0<fM n b/\fM n b∣n/\fM n b∣b:=by have j:=B6 (l:=[n,b]) (g:=0) b Qd Qa;have h:=(X0 [n,b] 0).2;exact⟨by unfold fM;omega,h n Qd,h b Qd⟩
def zO(n b:Int)(w:World)(a:0<b)(Z:n.natAbs<=1000000000000000000)(y:b.natAbs<=1000000000000000000):Calls prog 37 #[n,b] w (Qt w (.agg #[.int .i64 (n / fM n b),.int .i64 (b / fM n b)])):=by
 obtain⟨u,N,O⟩:=TQ n b a;have H:IntKind.i64.wrap (n.tdiv (fM n b))=n / fM n b:=kN u N Z Qc;have I:IntKind.i64.wrap (b.tdiv (fM n b))=b / fM n b:=kN u O y Qc;have S:=i' (by have R:=(ZO.new (T:=3) (w.alloc (.cells #[(0:Int),(0:Int)] 41)) [n,b]).at';simp only[hU]at R;exact pP (some ⟨w.heap.size+1,0,none⟩) [n,b] 2 ((w.alloc (.cells #[(0:Int),(0:Int)] 41)).alloc (.cells #[n,b] 3)) R Qd (by intro x U;simp only[ZA1,ZBj,Zyj]at U;rcases U with rfl|rfl<;>omega):Calls prog 61 #[.slice (some ⟨w.heap.size+1,0,none⟩) 2 2] ((w.alloc (.cells #[(0:Int),(0:Int)] 41)).alloc (.cells #[n,b] 3)) fun e c=>e=.returned (gcdL 0 [n,b]:Nat)/\Below ((w.alloc (.cells #[(0:Int),(0:Int)] 41)).alloc (.cells #[n,b] 3)).heap.size ((w.alloc (.cells #[(0:Int),(0:Int)] 41)).alloc (.cells #[n,b] 3)) c);obtain⟨g,D⟩:=Qu (fM n b);have q:((gcdL 0 [n,b]:Nat):Int)=g:=D;rw[q]at S;rw[D]at u H I |-;have F:¬g=0:=Qa
 have Y:(g==0)=false:=by simpa using F
 clear D q N O;go_enter func37,ntmps37;go_wp2_with (go_at_call 61;refine S.out.mono ?_;rintro e d ⟨rfl,h⟩);have V:=Zx h (Qs:((w.alloc (.cells #[(0:Int),(0:Int)] 41)).alloc (.cells #[n,b] 3)).heap[w.heap.size]?=some (.cells #[(0:Int),(0:Int)] 41));have X:QB w d:=via Qi h;clear h;refine B9 w 7 Qb Qb Qi ?_;intro E z;simp only[m',sT,e5,sA];repeat (go_big_quiet_step (fail))
 refine Zyi ?_;intro i j J G;clear E z;have L:=Zx j V;have f:=bk2 L;go_wp2;refine x3 (v:=.agg #[.int .i64 (n / g),.int .i64 (b / g)]) ?_ rfl ⟨rfl,?_⟩;·exact fK (p:=4) (ad:=⟨w.heap.size,0,none⟩) rfl Qe (y5 (T:=41) (cs:=[.int .i64 (n / g),.int .i64 (b / g)]) Qb Qb (ZJ (ZJ L _ rfl) _ rfl))
 .go_grown
def TS(k a n d v:Int)(w:World)(D:n.natAbs<=1000000000000000)(b:d.natAbs<=1000000000000000)(c:v.natAbs<=1000):Calls prog 26 #[.agg #[k,a],.agg #[n,d],v] w (Qt w (.bool (if k=1 then decide (n*1000<v*d)else decide (n<v*d)))):=by
 have p:=e4 c b;obtain⟨y,h⟩:=Qu (v*d);rw[h]at p;have u:IntKind.i64.wrap (v*d)=y:=by rw[h];exact j0 _ Qa
 have z:IntKind.i64.wrap (n*1000)=n*1000:=j0 _ Qa;rw[h];clear h p;by_cases j:k=1;·subst j;go_enter func26,ntmps26;go_wp2;go_ret;exact⟨bW Qd,Qi⟩
 .have q:(k==1)=false:=by simpa using j
  go_enter func26,ntmps26;go_wp2;go_ret;exact⟨bW (by simp[j]),Qi⟩
def bV(k a:Int):Int:=Z4 [unl (Z6 k 0 1) 15,unl (Z6 a 0 400) 2]
def pY(k b:Int)(w:World):Calls prog 46 #[.agg #[k,b]] w (Qt w (bV k b)):=by
 unfold bV;obtain⟨L,G⟩:=Qu (Z6 k 0 1);obtain⟨N,H⟩:=Qu (Z6 b 0 400);have j:=i' fun W=>dA k 0 1 W;have p:=i' fun W=>dA b 0 400 W;rw[G]at j |-;rw[H]at p |-;clear G H;go_enter func46,ntmps46;go_wp2;refine e9 ?_;intro I h;have q:QB w I:=by rw[h];go_grown
 have J:I.heap[w.heap.size]?=some (.cells #[k,b] 27):=by rw[h];exact Qs
 have D:=bk2 J;clear h;refine B9 w 8 Qb Qb q ?_;intro z y;simp only[m',sT,e5,sA];repeat (go_big_quiet_step (first
  |(go_at_call 22;first|with_reducible exact Zd (j.out _)|with_reducible exact Zd (p.out _))|(go_at_call 21;with_reducible exact Zd (hJ _ _ _))))
 refine Zyi ?_;intro O u F E;clear z y;go_wp2_with (go_at_call 19;refine(eP _ _ _).mono ?_;rintro e c ⟨rfl,rfl⟩);go_ret;exact⟨rfl,Qi⟩
def TT(A:Option Addr)(l:List Pa)(c:Nat)(B:Nat)(f:Pa->Bool)(w:World)(d:l.length<=1000000)(H:At 5 Pa.cs w A l)(Y:∀y∈l,∀W,QB w W->Calls prog 81 (#[.agg #[.string y.nm,y.a0,y.a1,y.c0,y.c1]]++#[.pointer (some B)]) W (Qt W (f y))):Calls prog 98 #[.slice A l.length c,.func (.func 81) #[] #[.pointer (some B)]] w fun e m=>(∃r:Int,e=.returned r/\decide (0<=r)=l.any f)/\QB w m:=by
 have z:=i' Y;have I:=i' H;obtain⟨n,X⟩:=Qu l.length;have L:=i' X;rw[X]at d |-;clear H Y X;go_enter func98,ntmps98;go_wp2_with fail;go_loopw [8] (fun i wr=>∃k:Nat,k<=n/\i=.int .i64 k/\Hid (((l.take k).any f)=false)/\QB w wr)(fun i _=>n-(intOf i).toNat);case atStart=>exact⟨0,e6 _,rfl,rfl,q' _ _⟩
 case round=>
  obtain⟨k,x,rfl,u,j⟩:=hrel;by_cases V:k<n
  .obtain⟨y,O⟩:∃y,l[k]?=some y:=⟨_,k2 (by rw[L.out];exact V)⟩;obtain⟨b,o,rfl,Z,F⟩:=I.out.below j k y O;have D:=i' fun W J=>z.out y (n2 O) W J;obtain⟨q,R⟩:=Qu (f y);have E:Hid (((l.take (k+1)).any f)=q):=by obtain⟨S,a⟩:=y'.1 O;unfold Hid;rw[l7 S,lW,a,u.out];simpa using R
   have G:Hid (q=true->(l.any f)=true):=fun h=>by rw[bL];exact⟨y,n2 O,by rw[R,h]⟩
   rw[R]at D;(have t:=F 0 _ rfl;have C:=F 1 _ rfl;have K:=F 2 _ rfl;have M:=F 3 _ rfl;have P:=F 4 _ rfl;simp only[sW]at t);have v:(k:Int)<(n:Int):=Qa
   clear F O R u z;cases q
   .go_wp2_with (go_at_call 81;refine(D.out _ j).mono ?_;rintro e s ⟨rfl,J⟩;have j:=via j J);go_roundw;case rel=>exact⟨k+1,Qa,Qj,E,j⟩
    case measure=>simp[intOf];omega
   .have g:=G.out rfl;go_wp2_with (go_at_call 81;refine(D.out _ j).mono ?_;rintro e s ⟨rfl,J⟩;have j:=via j J);go_ret;exact⟨⟨k,rfl,by rw[g];simp⟩,j⟩
  .have U:k=n:=Qa
   subst U;have p:=u.out;rw[g' (by rw[L.out];exact h' _)]at p;have N:=i' p;clear u p z;go_wp2;go_ret;exact⟨⟨-1,rfl,by rw[N.out];decide⟩,j⟩
def TU(A:Option Addr)(l:List Pa)(c:Nat)(B:Nat)(f:Pa->Bool)(w:World)(z:l.length<=1000000)(h:At 5 Pa.cs w A l)(j:∀y∈l,∀W,QB w W->Calls prog 81 (#[.agg #[.string y.nm,y.a0,y.a1,y.c0,y.c1]]++#[.pointer (some B)]) W (Qt W (f y))):Calls prog 80 #[.slice A l.length c,.func (.func 81) #[] #[.pointer (some B)]] w (Qt w (l.any f)):=by have p:=TT A l c B f w z h j;generalize (l.any f)=q at*;generalize l.length=n at*;clear h j;go_enter func80,ntmps80;go_wp2_with (go_at_call 98;refine p.mono ?_;rintro e E ⟨⟨r,rfl,D⟩,u⟩);go_ret;exact⟨rfl,u⟩
def TV(A:Option Addr)(l:List En)(c:Nat)(B:Nat)(f:En->Bool)(w:World)(d:l.length<=1000000)(G:At 3 En.cs w A l)(Y:∀y∈l,∀W,QB w W->Calls prog 83 (#[.agg #[.string y.nm,.slice y.A y.co.length y.c,y.mo]]++#[.pointer (some B)]) W (Qt W (f y))):Calls prog 99 #[.slice A l.length c,.func (.func 83) #[] #[.pointer (some B)]] w fun e m=>(∃r:Int,e=.returned r/\decide (0<=r)=l.any f)/\QB w m:=by
 have z:=i' Y;have H:=i' G;obtain⟨n,X⟩:=Qu l.length;have J:=i' X;rw[X]at d |-;clear G Y X;go_enter func99,ntmps99;go_wp2_with fail;go_loopw [8] (fun i wr=>∃k:Nat,k<=n/\i=.int .i64 k/\Hid (((l.take k).any f)=false)/\QB w wr)(fun i _=>n-(intOf i).toNat);case atStart=>exact⟨0,e6 _,rfl,rfl,q' _ _⟩
 case round=>
  obtain⟨k,x,rfl,u,j⟩:=hrel;by_cases V:k<n
  .obtain⟨y,N⟩:∃y,l[k]?=some y:=⟨_,k2 (by rw[J.out];exact V)⟩;obtain⟨b,o,rfl,Z,O⟩:=H.out.below j k y N;have D:=i' fun W I=>z.out y (n2 N) W I;obtain⟨q,R⟩:=Qu (f y);have E:Hid (((l.take (k+1)).any f)=q):=by obtain⟨S,a⟩:=y'.1 N;unfold Hid;rw[l7 S,lW,a,u.out];simpa using R
   have F:Hid (q=true->(l.any f)=true):=fun h=>by rw[bL];exact⟨y,n2 N,by rw[R,h]⟩
   rw[R]at D;(have t:=O 0 _ rfl;have C:=O 1 _ rfl;have K:=O 2 _ rfl;simp only[sW]at t);have v:(k:Int)<(n:Int):=Qa
   clear O N R u z;cases q
   .go_wp2_with (go_at_call 83;refine(D.out _ j).mono ?_;rintro e s ⟨rfl,I⟩;have j:=via j I);go_roundw;case rel=>exact⟨k+1,Qa,Qj,E,j⟩
    case measure=>simp[intOf];omega
   .have g:=F.out rfl;go_wp2_with (go_at_call 83;refine(D.out _ j).mono ?_;rintro e s ⟨rfl,I⟩;have j:=via j I);go_ret;exact⟨⟨k,rfl,by rw[g];simp⟩,j⟩
  .have U:k=n:=Qa
   subst U;have p:=u.out;rw[g' (by rw[J.out];exact h' _)]at p;have L:=i' p;clear u p z;go_wp2;go_ret;exact⟨⟨-1,rfl,by rw[L.out];decide⟩,j⟩
def TW(A:Option Addr)(l:List En)(c:Nat)(B:Nat)(f:En->Bool)(w:World)(z:l.length<=1000000)(h:At 3 En.cs w A l)(j:∀y∈l,∀W,QB w W->Calls prog 83 (#[.agg #[.string y.nm,.slice y.A y.co.length y.c,y.mo]]++#[.pointer (some B)]) W (Qt W (f y))):Calls prog 82 #[.slice A l.length c,.func (.func 83) #[] #[.pointer (some B)]] w (Qt w (l.any f)):=by have p:=TV A l c B f w z h j;generalize (l.any f)=q at*;generalize l.length=n at*;clear h j;go_enter func82,ntmps82;go_wp2_with (go_at_call 99;refine p.mono ?_;rintro e E ⟨⟨r,rfl,D⟩,u⟩);go_ret;exact⟨rfl,u⟩
def TX(A:Option Addr)(l:List Int)(c:Nat)  (f:Int->Bool)(w:World)(d:l.length<=1000000)(G:At 1 Zc w A l)(X:∀y∈l,∀W,QB w W->Calls prog 84 (#[.int .i64 y]++#[]) W (Qt W (f y))):Calls prog 79 #[.slice A l.length c,.func (.func 84) #[] #[]] w fun e m=>(∃r:Int,e=.returned r/\decide (0<=r)=l.any f)/\QB w m:=by
 have z:=i' X;have H:=i' G;obtain⟨n,V⟩:=Qu l.length;have J:=i' V;rw[V]at d |-;clear G X V;go_enter func79,ntmps79;go_wp2_with fail;go_loopw [8] (fun i wr=>∃k:Nat,k<=n/\i=.int .i64 k/\Hid (((l.take k).any f)=false)/\QB w wr)(fun i _=>n-(intOf i).toNat);case atStart=>exact⟨0,e6 _,rfl,rfl,q' _ _⟩
 case round=>
  obtain⟨k,x,rfl,u,j⟩:=hrel;by_cases U:k<n
  .obtain⟨y,N⟩:∃y,l[k]?=some y:=⟨_,k2 (by rw[J.out];exact U)⟩;obtain⟨b,o,rfl,Z,Y⟩:=H.out.below j k y N;have D:=i' fun W I=>z.out y (n2 N) W I;obtain⟨q,O⟩:=Qu (f y);have E:Hid (((l.take (k+1)).any f)=q):=by obtain⟨R,a⟩:=y'.1 N;unfold Hid;rw[l7 R,lW,a,u.out];simpa using O
   have F:Hid (q=true->(l.any f)=true):=fun h=>by rw[bL];exact⟨y,n2 N,by rw[O,h]⟩
   rw[O]at D;(have t:=Y 0 _ rfl;simp only[sW,w8]at t);have v:(k:Int)<(n:Int):=Qa
   clear Y N O u z;cases q
   .go_wp2_with (go_at_call 84;refine(D.out _ j).mono ?_;rintro e s ⟨rfl,I⟩;have j:=via j I);go_roundw;case rel=>exact⟨k+1,Qa,Qj,E,j⟩
    case measure=>simp[intOf];omega
   .have g:=F.out rfl;go_wp2_with (go_at_call 84;refine(D.out _ j).mono ?_;rintro e s ⟨rfl,I⟩;have j:=via j I);go_ret;exact⟨⟨k,rfl,by rw[g];simp⟩,j⟩
  .have S:k=n:=Qa
   subst S;have p:=u.out;rw[g' (by rw[J.out];exact h' _)]at p;have L:=i' p;clear u p z;go_wp2;go_ret;exact⟨⟨-1,rfl,by rw[L.out];decide⟩,j⟩
def IJ(A:Option Addr)(l:List Int)(c:Nat)  (f:Int->Bool)(w:World)(z:l.length<=1000000)(h:At 1 Zc w A l)(j:∀y∈l,∀W,QB w W->Calls prog 84 (#[.int .i64 y]++#[]) W (Qt W (f y))):Calls prog 57 #[.slice A l.length c,.func (.func 84) #[] #[]] w (Qt w (l.any f)):=by have p:=TX A l c  f w z h j;generalize (l.any f)=q at*;generalize l.length=n at*;clear h j;go_enter func57,ntmps57;go_wp2_with (go_at_call 79;refine p.mono ?_;rintro e E ⟨⟨r,rfl,D⟩,u⟩);go_ret;exact⟨rfl,u⟩
def TY(A:Option Addr)(l:List Int)(c:Nat)  (f:Int->Bool)(w:World)(d:l.length<=1000000)(G:At 1 Zc w A l)(X:∀y∈l,∀W,QB w W->Calls prog 58 (#[.int .i64 y]++#[]) W (Qt W (f y))):Calls prog 79 #[.slice A l.length c,.func (.func 58) #[] #[]] w fun e m=>(∃r:Int,e=.returned r/\decide (0<=r)=l.any f)/\QB w m:=by
 have z:=i' X;have H:=i' G;obtain⟨n,V⟩:=Qu l.length;have J:=i' V;rw[V]at d |-;clear G X V;go_enter func79,ntmps79;go_wp2_with fail;go_loopw [8] (fun i wr=>∃k:Nat,k<=n/\i=.int .i64 k/\Hid (((l.take k).any f)=false)/\QB w wr)(fun i _=>n-(intOf i).toNat);case atStart=>exact⟨0,e6 _,rfl,rfl,q' _ _⟩
 case round=>
  obtain⟨k,x,rfl,u,j⟩:=hrel;by_cases U:k<n
  .obtain⟨y,N⟩:∃y,l[k]?=some y:=⟨_,k2 (by rw[J.out];exact U)⟩;obtain⟨b,o,rfl,Z,Y⟩:=H.out.below j k y N;have D:=i' fun W I=>z.out y (n2 N) W I;obtain⟨q,O⟩:=Qu (f y);have E:Hid (((l.take (k+1)).any f)=q):=by obtain⟨R,a⟩:=y'.1 N;unfold Hid;rw[l7 R,lW,a,u.out];simpa using O
   have F:Hid (q=true->(l.any f)=true):=fun h=>by rw[bL];exact⟨y,n2 N,by rw[O,h]⟩
   rw[O]at D;(have t:=Y 0 _ rfl;simp only[sW,w8]at t);have v:(k:Int)<(n:Int):=Qa
   clear Y N O u z;cases q
   .go_wp2_with (go_at_call 58;refine(D.out _ j).mono ?_;rintro e s ⟨rfl,I⟩;have j:=via j I);go_roundw;case rel=>exact⟨k+1,Qa,Qj,E,j⟩
    case measure=>simp[intOf];omega
   .have g:=F.out rfl;go_wp2_with (go_at_call 58;refine(D.out _ j).mono ?_;rintro e s ⟨rfl,I⟩;have j:=via j I);go_ret;exact⟨⟨k,rfl,by rw[g];simp⟩,j⟩
  .have S:k=n:=Qa
   subst S;have p:=u.out;rw[g' (by rw[J.out];exact h' _)]at p;have L:=i' p;clear u p z;go_wp2;go_ret;exact⟨⟨-1,rfl,by rw[L.out];decide⟩,j⟩
def TZ(A:Option Addr)(l:List Int)(c:Nat)  (f:Int->Bool)(w:World)(z:l.length<=1000000)(h:At 1 Zc w A l)(j:∀y∈l,∀W,QB w W->Calls prog 58 (#[.int .i64 y]++#[]) W (Qt W (f y))):Calls prog 57 #[.slice A l.length c,.func (.func 58) #[] #[]] w (Qt w (l.any f)):=by have p:=TY A l c  f w z h j;generalize (l.any f)=q at*;generalize l.length=n at*;clear h j;go_enter func57,ntmps57;go_wp2_with (go_at_call 79;refine p.mono ?_;rintro e E ⟨⟨r,rfl,D⟩,u⟩);go_ret;exact⟨rfl,u⟩
def zP(lo hi m:Int)(w:World):Calls prog 67 #[.agg #[lo,hi],m] w (Qt w (eG lo hi m)):=by unfold eG;obtain⟨R,I⟩:=Qu (Z6 lo 0 m);obtain⟨S,J⟩:=Qu (Z6 hi 0 m);obtain⟨U,q⟩:=Qu (decide (lo<=hi));have j:=i' fun W=>dA lo 0 m W;have p:=i' fun W=>dA hi 0 m W;rw[I]at j |-;rw[J]at p |-;rw[q];have u:=i' q;clear I J q;cases R;all_goals
  go_enter func67,ntmps67;go_wp2;refine e9 ?_;intro N h;have y:QB w N:=by rw[h];go_grown
  have O:N.heap[w.heap.size]?=some (.cells #[lo,hi] 54):=by rw[h];exact Qs
  have D:=bk2 O;clear h;have L:=u.out;refine B9 w 17 Qb Qb y ?_;intro F E;simp only[m',sT,e5,sA];repeat (go_big_quiet_step (first
   |(go_at_call 22;first|with_reducible exact Zd (j.out _)|with_reducible exact Zd (p.out _))|(go_at_call 21;with_reducible exact Zd (hJ _ _ _))))
  refine Zyi ?_;intro V z H G;clear F E;go_wp2_with (go_at_call 19;refine(eP _ _ _).mono ?_;rintro e a ⟨rfl,rfl⟩);go_ret;exact⟨aR Qd,Qi⟩
def T0(p q:Pa)(B:Nat)(w:World)(a:w.heap[B]?=some (.cells #[.string p.nm,p.a0,p.a1,p.c0,p.c1] 65)):Calls prog 81 (#[.agg #[.string q.nm,q.a0,q.a1,q.c0,q.c1]]++#[.pointer (some B)]) w (Qt w (eqS q.nm p.nm)):=by
 have h:w.cell? B=some (.string p.nm):=by unfold World.cell?;simp[a]
 have j:=ZE a;clear a;simp only[fI,hP,s0];go_enter func81,ntmps81;go_wp2;go_ret;exact⟨bW (by simp[eqS]),Qi⟩
def T2(p q:En)(B:Nat)(w:World)(a:w.heap[B]?=some (.cells #[.string p.nm,.slice p.A p.co.length p.c,p.mo] 67)):Calls prog 83 (#[.agg #[.string q.nm,.slice q.A q.co.length q.c,q.mo]]++#[.pointer (some B)]) w (Qt w (eqS q.nm p.nm)):=by have h:=(bk3 a).1;have j:=ZE a;clear a;simp only[fI,hP,s0];go_enter func83,ntmps83;go_wp2;go_ret;exact⟨bW (by simp[eqS]),Qi⟩
def IK(n:Int)(w:World):Calls prog 84 (#[.int .i64 n]++#[]) w (Qt w (.bool (!hT n 20))):=by simp only[fI,hP,s0];go_enter func84,ntmps84;go_wp2_with (go_at_call 44;refine(pX _ _ _ Qc).mono ?_;rintro e a ⟨rfl,rfl⟩);go_ret;exact⟨rfl,q' _ _⟩
variable {w:World} {ps:List Pa} {i:Nat} {es:List En}
def At.take'{α:Type} {a:Nat} {cs:α->List Value} {A:Option Addr} {l:List α} (h:At a cs w A l)(n:Nat):At a cs w A (l.take n):=by
 intro k x j;rw[dS]at j;split at j;·exact h k x j
 .cases j
def fV:List Int->Nat->Option (Nat×Int)|[],_=>none|e::l,k=>if e=0 then fV l (k+1)else some (k,e)
def R2:∀(l:List Int)(k:Nat),(∀i,i<l.length->l.getD i 0=0)->fV l k=none|[],_,_=>rfl|e::l,k,h=>by unfold fV;rw[r4 (show e=0 by simpa using h 0 Qd)];exact R2 l (k+1) fun i a=>by have:=h (i+1) (by simpa using a);simpa using this
def kZ:∀(l:List Int)(k i:Nat),i<l.length->(∀j,j<i->l.getD j 0=0)->l.getD i 0≠0->fV l k=some (k+i,l.getD i 0)|[],_,_,h,_,_=>by simp at h|e::l,k,0,_,_,h=>by unfold fV;rw[Zc9 (show ¬e=0 by simpa using h)];rfl|e::l,k,i+1,hi,h1,h2=>by unfold fV;rw[r4 (show e=0 by simpa using h1 0 Qa),kZ l (k+1) i (by simpa using hi) (fun j p=>by simpa using h1 (j+1) Qa) (by simpa using h2)];simp;omega
def cR(ps:List Pa)(i:Nat)(p:Pa):Int:=Z4 [unl (c6 p.nm.data.toList) 4,unl (!((ps.take i).any fun q=>eqS q.nm p.nm)) 5,eG p.a0 p.a1 400,eG p.c0 p.c1 20]
def cS(np:Nat)(es:List En)(i:Nat)(x:En):Int:=Z4 [unl (c6 x.nm.data.toList) 4,unl (!((es.take i).any fun y=>eqS y.nm x.nm)) 5,unl (decide (x.co.length=np)) 10,unl (!((x.mo::x.co).any fun n=>!hT n 20)) 2]
def cX(ps:List Pa):List Int:=ps.mapIdx fun i p=>cR ps i p
def dZ(np:Nat)(es:List En):List Int:=es.mapIdx fun i x=>cS np es i x
def X2{p:Pa} (h:ps[i]?=some p):(cX ps).getD i 0=cR ps i p:=by simp[cX,h6,h]
def L2{np:Nat} {x:En} (h:es[i]?=some x):(dZ np es).getD i 0=cS np es i x:=by simp[dZ,h6,h]
def cQ(n:Nat):Int:=Z4 [unl (decide (0<n)) 10,unl (decide (n<=5)) 8]
def h0(ps:List Pa)(es:List En):Int×Int:=if cQ ps.length≠0 then (0,cQ ps.length) else match fV (cX ps) 0 with|some (k,e)=>((k:Int),e)|none=>if 8<es.length then (0,8)else match fV (dZ ps.length es) 0 with|some (k,e)=>((k:Int),e)|none=>(0,0)
structure BookAt (w:World)(pA:Option Addr)(pc:Nat)(ps:List Pa)(eA:Option Addr)(ec:Nat)(es:List En):Prop where
 P:At 5 Pa.cs w pA ps
 E:h7 w eA es
 pc':ps.length<=pc
 ec':es.length<=ec
 nil:∀x∈es,x.A=none->x.c=0
def BookAt.below{w':World} {q j:Option Addr} {u p:Nat} (h:BookAt w q u ps j p es)(hb:QB w w'):BookAt w' q u ps j p es:=⟨h.P.below hb,h.E.below hb,h.pc',h.ec',h.nil⟩
structure FewB (ps:List Pa)(es:List En):Prop where
 p:ps.length<=1000
 e:es.length<=1000
 pn:∀p∈ps,p.nm.size<=1000
 en:∀x∈es,x.nm.size<=1000
 co:∀x∈es,x.co.length<=1000
def T3{P:Program} {b:Array Oper} {Q:Exit->Act->World->Prop} {l:List Oper} {a:Act} (h:∀W,W=w->wpList P b Q l a W):wpList P b Q l a w:=h w rfl
def T4(pA eA:Option Addr)(pc Q F d:Nat)(ps:List Pa)(es:List En)(w:World)(hB:BookAt w pA pc ps eA Q es)(hF:FewB ps es)(aS:ps.length=F)(aP:es.length=d):Calls prog 62 #[.agg #[.slice pA F pc,.slice eA d Q]] w (Qt w (.tuple #[(h0 ps es).1,(h0 ps es).2])):=by
 have cO:F<=pc:=by rw[<-aS];exact hB.pc'
 have cM:d<=Q:=by rw[<-aP];exact hB.ec'
 have cN:F<=1000:=by rw[<-aS];exact hF.p
 have cL:d<=1000:=by rw[<-aP];exact hF.e
 have aK:=i' hB;have bB:=i' hF;have aE:=i' aS;have Y:=i' aP;have hv:=i' (show h0 ps es=if cQ F≠0 then (0,cQ F) else match fV (cX ps) 0 with
    |some (k,e)=>((k:Int),e)|none=>if 8<d then (0,8)else match fV (dZ F es) 0 with
     |some (k,e)=>((k:Int),e)|none=>(0,0)by rw[<-aS,<-aP];rfl);obtain⟨V,hV⟩:=Qu (h0 ps es);rw[hV]at hv |-;have aY:Hid (cQ F=Z4 [unl (decide (0<F)) 10,unl (decide (F<=5)) 8]):=rfl;obtain⟨S,hS⟩:=Qu (cQ F);rw[hS]at hv aY;clear hB hF aS aP hV hS;obtain⟨s1,bF⟩:=Qu (decide (0<F));obtain⟨s2,bG⟩:=Qu (decide (F<=5));rw[bF,bG]at aY;have bP:decide ((0:Int)<(F:Int))=s1:=by rw[<-bF,lR];omega
 have bQ:decide ((F:Int)<=5)=s2:=by rw[<-bG,lR];omega
 go_enter func62,ntmps62;go_wp2;refine e9 ?_;intro w1 bH;have bE:QB w w1:=by rw[bH];go_grown
 have M0:w1.heap[w.heap.size]?=some (.cells #[.slice pA F pc,.slice eA d Q] 25):=by rw[bH];exact Qs
 have D:=bk2 M0;clear bH;refine B9 w 10 Qb Qb bE ?_;intro aH aG;simp only[m',sT,e5,sA];repeat (go_big_quiet_step ((go_at_call 21;with_reducible exact Zd (hJ _ _ _))))
 refine Zyi ?_;intro wb h G aA;clear aH aG;have g:=Zx h M0;have D2:=bk2 g;have I:=via bE h;clear M0 D bE h;have M:=i' aY.out.symm;by_cases bD:S=0
 .subst bD;have z:=M.out;have aT:=i' (show V=match fV (cX ps) 0 with|some (k,e)=>((k:Int),e)|none=>if 8<d then (0,8)else match fV (dZ F es) 0 with
     |some (k,e)=>((k:Int),e)|none=>(0,0)by rw[hv.out,Zc9 Qd]);clear hv aY M bF bG bP bQ;go_wp2_with (go_at_call 19;refine(eP _ _ _).mono ?_;rw[z];rintro e w' ⟨rfl,rfl⟩);go_loopw [32] (fun i wr=>∃k:Nat,k<=F/\i=.int .i64 k/\Hid (∀j,j<k->(cX ps).getD j 0=0)/\wr.heap[w.heap.size]?=some (.cells #[.slice pA F pc,.slice eA d Q] 25 (0,0))/\QB w wr)(fun i _=>F-(intOf i).toNat);case atStart=>exact⟨0,e6 _,rfl,fun j hj=>Qa,Qs,Qi⟩
  case round=>
   clear g D2 I G aA z;obtain⟨k,hk,rfl,B,g,I⟩:=hrel;have D:=bk2 g;by_cases aI:k<F
   .have cA:(k:Int)<(F:Int):=Qa
    obtain⟨p,hp⟩:∃p,ps[k]?=some p:=⟨_,k2 (by rw[aE.out];exact aI)⟩;obtain⟨b,o,rfl,bW,t⟩:=(aK.out.below I).P k p hp;have y0:=t 0 _ rfl;have y1:=t 1 _ rfl;have y2:=t 2 _ rfl;have y3:=t 3 _ rfl;have y4:=t 4 _ rfl;simp only[sW]at y0;have N:=i' (X2 hp);have cC:¬((pc:Int)<(k:Int)):=Qa
    have bM:(k:Int)<=(pc:Int):=Qa
    have H:=i' (by have m:=TU (some ⟨b,o,none⟩) (ps.take k) pc wr.heap.size (fun q=>eqS q.nm p.nm) (wr.alloc (.cells #[.string p.nm,p.a0,p.a1,p.c0,p.c1] 65)) (by rw[C3];have:=aE.out;omega) (((aK.out.below I).P.take' k).below (ZB _ _)) (fun y _ W hW=>T0 p y wr.heap.size W (Zx hW (ZA _ _ rfl)));rw[C3,aE.out,Q9 Qa]at m;exact m);obtain⟨q,hq⟩:∃q,(ps.take k).any (fun q=>eqS q.nm p.nm)=q:=⟨_,rfl⟩;rw[hq]at H;have X:Hid (cR ps k p=Z4 [unl (c6 p.nm.data.toList) 4,unl (!((ps.take k).any fun q=>eqS q.nm p.nm)) 5,eG p.a0 p.a1 400,eG p.c0 p.c1 20]):=rfl;rw[hq]at X;obtain⟨E,hE⟩:=Qu (cR ps k p);rw[hE]at X N;have aX:=i' (show p.nm.size<=9223372036854775807 from w7 (bB.out.pn p (n2 hp)) Qc);have cE:=ZE g;clear t hp hq hE;go_wp2_with (go_at_call 80;refine H.out.mono ?_;rintro e f ⟨rfl,J⟩);have a:=Zx J (Zz g (.cells #[.string p.nm,p.a0,p.a1,p.c0,p.c1] 65));have O:=Zx J (ZA wr (.cells #[.string p.nm,p.a0,p.a1,p.c0,p.c1] 65) rfl);have aC:=via I (via (ZB wr (.cells #[.string p.nm,p.a0,p.a1,p.c0,p.c1] 65)) J);have e0:f.cell? wr.heap.size=some (.string p.nm):=by unfold World.cell?;simp[O]
    have e1:f.cell? ⟨wr.heap.size,1,none⟩=some (.int .i64 p.a0):=by unfold World.cell?;simp[O]
    have e2:f.cell? ⟨wr.heap.size,2,none⟩=some (.int .i64 p.a1):=by unfold World.cell?;simp[O]
    have e3:f.cell? ⟨wr.heap.size,3,none⟩=some (.int .i64 p.c0):=by unfold World.cell?;simp[O]
    have e4:f.cell? ⟨wr.heap.size,4,none⟩=some (.int .i64 p.c1):=by unfold World.cell?;simp[O]
    have cP:=ZE O;clear y0 y1 y2 y3 y4 J D g H;refine B9 w 13 Qb Qb aC ?_;intro aH aG;simp only[m',sT,e5,sA];repeat (go_big_quiet_step (first|(go_at_call 45;with_reducible exact Grew.call (lS _ _ aX.out))|(go_at_call 21;with_reducible exact Zd (hJ _ _ _))|(go_at_call 67;with_reducible exact Grew.call (zP _ _ _ _))))
    refine Zyi ?_;intro wb h G aA;clear aH aG;have P0:=Zx h a;clear a O e0 e1 e2 e3 e4 aC h;have M:=i' X.out.symm;have z:=M.out;by_cases R:E=0
    .subst R;go_wp2_with (go_at_call 19;refine(B0 _ _ _ _ _).mono ?_;rw[z];rintro e w' ⟨rfl,rfl⟩);go_roundw;case rel=>exact⟨k+1,Qa,Qj,(fun j hj=>by
      by_cases aQ:j=k;·rw[aQ,N.out]
      .exact B.out j Qa),Zz P0 _,via G (ZB _ _)⟩
     case measure=>exact Qv
    .have bK : (E != 0) = true := by simpa using R
     have aV:=i' (show V=((k:Int),E)by rw[aT.out,kZ (cX ps) 0 k (by simp[cX];rw[aE.out];exact aI) B.out (by rw[N.out];exact R),N.out];simp);go_wp2_with (go_at_call 19;refine(B0 _ _ _ _ _).mono ?_;rw[z];rintro e w' ⟨rfl,rfl⟩);go_ret2;exact⟨by rw[aV.out];rfl,Qi⟩
   .obtain rfl:F=k:=Qa
    have bS:=i' (show V=if 8<d then (0,8)else match fV (dZ F es) 0 with
      |some (k,e)=>((k:Int),e)|none=>(0,0)by rw[aT.out,R2 (cX ps) 0 fun i v=>B.out i (by simp[cX]at v;rw[aE.out]at v;exact v)]);clear B aI aT;by_cases h8:8<d
    .have aU:=i' (show V=(0,8)by rw[bS.out,r4 h8]);have bT:(8:Int)<(d:Int):=Qa
     go_wp2;go_ret2;exact⟨by rw[aU.out];rfl,Qi⟩
    .have bT:¬(8:Int)<(d:Int):=Qa
     have aU:=i' (show V=match fV (dZ F es) 0 with|some (k,e)=>((k:Int),e)|none=>(0,0)by rw[bS.out,Zc9 h8]);go_wp2;go_loopw [70] (fun i wr=>∃k:Nat,k<=d/\i=.int .i64 k/\Hid (∀j,j<k->(dZ F es).getD j 0=0)/\wr.heap[w.heap.size]?=some (.cells #[.slice pA F pc,.slice eA d Q] 25)/\QB w wr)(fun i _=>d-(intOf i).toNat);case atStart=>exact⟨0,e6 _,rfl,fun j hj=>Qa,g,I⟩
     case round=>
      clear g D I;obtain⟨k,hk,rfl,B,g,I⟩:=hrel;have D:=bk2 g;by_cases aI:k<d
      .have cA:(k:Int)<(d:Int):=Qa
       obtain⟨x,hx⟩:∃x,es[k]?=some x:=⟨_,k2 (by rw[Y.out];exact aI)⟩;have aW:=n2 hx;obtain⟨b,o,rfl,bW,t⟩:=(aK.out.below I).E.1 k x hx;have y0:=t 0 _ rfl;have y1:=t 1 _ rfl;have y2:=t 2 _ rfl;simp only[sW]at y0;have N:=i' (L2 (np:=F) hx);have cC:¬((Q:Int)<(k:Int)):=Qa
       have bM:(k:Int)<=(Q:Int):=Qa
       have H:=i' (by have m:=TW (some ⟨b,o,none⟩) (es.take k) Q wr.heap.size (fun y=>eqS y.nm x.nm) (wr.alloc (.cells #[.string x.nm,.slice x.A x.co.length x.c,x.mo] 67)) (by rw[C3];have:=Y.out;omega) (((aK.out.below I).E.1.take' k).below (ZB _ _)) (fun y _ W hW=>T2 x y wr.heap.size W (Zx hW (ZA _ _ rfl)));rw[C3,Y.out,Q9 Qa]at m;exact m);obtain⟨q,hq⟩:=Qu ((es.take k).any (fun y=>eqS y.nm x.nm));rw[hq]at H;have X:Hid (cS F es k x=Z4 [unl (c6 x.nm.data.toList) 4,unl (!((es.take k).any fun y=>eqS y.nm x.nm)) 5,unl (decide (x.co.length=F)) 10,unl (!((x.mo::x.co).any fun n=>!hT n 20)) 2]):=rfl;rw[hq]at X;obtain⟨E,hE⟩:=Qu (cS F es k x);rw[hE]at X N;have aX:=i' (show x.nm.size<=9223372036854775807 from w7 (bB.out.en x aW) Qc);have bJ:=i' ((aK.out.below I).E.2 x aW);have bZ:=bB.out.co x aW;have bA:=i' (aK.out.nil x aW);have cE:=ZE g;obtain⟨L,hL⟩:=Qu x.co.length;have bC:=i' hL;rw[hL]at H X bZ y1;obtain⟨r,hr⟩:=Qu ((x.mo::x.co).any (fun n=>!hT n 20));have bO:=i' hr;rw[hr]at X;obtain⟨s,hs⟩:=Qu (decide (L=F));rw[hs]at X;have bR:((L:Int)==(F:Int))=s:=by rw[<-hs,cV];simp;omega
       obtain⟨i0,v,cG,cH,cI⟩:=x0 info3;clear t hx aW hq hE hL hr;have aR:=i' fun(y:World)=>(⟨rfl,.inr ⟨y.heap.size,1,#[.int .i64 x.mo],rfl,h' _,ZA _ _ rfl,h' _,Qc,rfl,rfl⟩⟩:(y.alloc (.cells #[x.mo] 3)).ownsRow y.heap.size 3 1 (.slice (some y.heap.size) 1 1) 1 [.int .i64 x.mo]);obtain⟨XA,bV⟩:=Qu x.A;rw[bV]at y1 bJ bA H;rcases XA with _|ad
       .have aO:x.co=[]:=by cases hh:x.co with|nil=>rfl|cons y l=>obtain⟨b',o',e,-⟩:=bJ.out 0 y (by rw[hh];rfl);cases e
        have bU:L=0:=by rw[<-bC.out,aO];rfl
        subst bU;have cJ:((0:Int)==(F:Int))=s:=bR;clear bR;have bX:=bA.out rfl;rw[bX]at y1 H;have H:=i' H.out;go_wp2_with (first|(go_at_call 82;refine H.out.mono ?_;rintro e f ⟨rfl,J⟩;have O:=Zx J (ZA wr (.cells #[.string x.nm,.slice none 0 0,x.mo] 67) rfl);have K:=bk3 O;have a:=Zx J (Zz g (.cells #[.string x.nm,.slice none 0 0,x.mo] 67));have C:=bk2 a;have aC:=via I (via (ZB wr (.cells #[.string x.nm,.slice none 0 0,x.mo] 67)) J))|(at_builtin;refine wpList_append_own_none rfl _ _ 30 rfl f.heap.size 3 i0 1 underlying30 v _ 1 [.int .i64 x.mo] rfl (aR.out f) rfl ?_;refine SX ?stop));case stop=>
        refine i' ?_;refine T3 ?_;intro w4 bI;have U:QB f w4:=by rw[bI];exact ZB _ _
        have aF:=i' (show At 1 Zc w4 (some ⟨f.heap.size,0,none⟩) (x.mo::x.co)by rw[aO,bI];exact(ZO.new (T:=3) f [x.mo]).at');have aD:=i' (show (x.mo::x.co).length=1 by rw[aO];rfl);clear bI;have aL:=i' (by have m:=IJ _ (x.mo::x.co) 1 (fun n=>!hT n 20) w4 (by rw[aD.out];omega) aF.out (fun y _ W hW=>IK y W);rw[bO.out,aD.out]at m;exact m);have O0:=Zx U a;have O1:=Zx U O;have aM:=via aC U;have C:=bk2 O0;have K:=bk3 O1;clear a O aC H;go_wp2_with (go_at_call 57;refine aL.out.mono ?_;rintro e w6 ⟨rfl,Z⟩);have a:=Zx Z O0;have O:=Zx Z O1;have aN:=via aM Z;clear C K O0 O1 aM Z aL;have C:=bk2 a;have K:=bk3 O;have cD:=ZE O;refine B9 w 18 Qb Qb aN ?_;intro aH aG;simp only[m',sT,e5,sA];repeat (go_big_quiet_step (first
         |(go_at_call 45;with_reducible exact Grew.call (lS _ _ aX.out))|(go_at_call 21;with_reducible exact Zd (hJ _ _ _))))
        refine Zyi ?_;intro wb h G aA;clear aH aG;have P0:=Zx h a;clear a O C K aN h;have M:=i' X.out.symm;have z:=M.out;by_cases R:E=0
        .subst R;go_wp2_with (go_at_call 19;refine(B0 _ _ _ _ _).mono ?_;rw[z];rintro e w' ⟨rfl,rfl⟩);go_roundw;case rel=>exact⟨k+1,Qa,Qj,(fun j hj=>by
          by_cases aQ:j=k;·rw[aQ,N.out]
          .exact B.out j Qa),Zz P0 _,via G (ZB _ _)⟩
         case measure=>exact Qv
        .have bK : (E != 0) = true := by simpa using R
         have aV:=i' (show V=((k:Int),E)by rw[aU.out,kZ (dZ F es) 0 k (by simp[dZ];rw[Y.out];exact aI) B.out (by rw[N.out];exact R),N.out];simp);go_wp2_with (go_at_call 19;refine(B0 _ _ _ _ _).mono ?_;rw[z];rintro e w' ⟨rfl,rfl⟩);go_ret2;exact⟨by rw[aV.out];rfl,Qi⟩
       .go_wp2_with (first|(go_at_call 82;refine H.out.mono ?_;rintro e f ⟨rfl,J⟩;have O:=Zx J (ZA wr (.cells #[.string x.nm,.slice (some ad) L x.c,x.mo] 67) rfl);have K:=bk3 O;have a:=Zx J (Zz g (.cells #[.string x.nm,.slice (some ad) L x.c,x.mo] 67));have C:=bk2 a;have aC:=via I (via (ZB wr (.cells #[.string x.nm,.slice (some ad) L x.c,x.mo] 67)) J))|(at_builtin;refine C0 _ rfl _ _ 30 rfl f.heap.size 3 i0 (.int .i64 0) 1 8 underlying30 v cG cH cI rfl Qc _ _ _ rfl (aR.out f) ad L x.c (x.co.map (Value.int .i64)) rfl ?c0 ?c1 ?c2 ?c3 ?c4 ?c5 ?_));case c0=>rw[R',bC.out,w8]
        case c1=>
         intro j u hu;rw[k3]at hu;obtain⟨y,hy,rfl⟩:=C2.1 hu;obtain⟨b',o',e,-,bY⟩:=((bJ.out.below (via (ZB wr (.cells #[.string x.nm,.slice (some ad) L x.c,x.mo] 67)) J)).below (ZB f (.cells #[x.mo] 3))) j y hy;cases e;have e:Addr.add ⟨b',o',none⟩ j=⟨b',o'+j,none⟩:=by unfold Addr.add;split<;>simp_all
         rw[e];simpa using bY 0 _ rfl
        case c2=>intro u hu;obtain⟨y,-,rfl⟩:=L'.1 hu;rfl
        case c3=>unfold maxLen;omega
        case c4=>omega
        case c5=>simp
        intro v4 w4 aJ bL _;obtain⟨A4,c4,rfl⟩:=Z2 aJ;have U:QB f w4:=ZW (ZB f _) bL fun b e=>by cases e;exact h' _
        have aZ:=e7 (l:=x.mo::x.co) aJ;have bN:(x.mo::x.co).length=1+L:=by simp only[r3];rw[bC.out];omega
        have aF:=i' aZ;have aD:=i' bN;clear aJ bL aZ bN;have aL:=i' (by have m:=IJ _ (x.mo::x.co) c4 (fun n=>!hT n 20) w4 (by rw[aD.out];omega) aF.out (fun y _ W hW=>IK y W);rw[bO.out,aD.out]at m;exact m);have O0:=Zx U a;have O1:=Zx U O;have aM:=via aC U;have C:=bk2 O0;have K:=bk3 O1;clear a O aC H;go_wp2_with (go_at_call 57;refine aL.out.mono ?_;rintro e w6 ⟨rfl,Z⟩);have a:=Zx Z O0;have O:=Zx Z O1;have aN:=via aM Z;clear C K O0 O1 aM Z aL;have C:=bk2 a;have K:=bk3 O;have cD:=ZE O;refine B9 w 18 Qb Qb aN ?_;intro aH aG;simp only[m',sT,e5,sA];repeat (go_big_quiet_step (first|(go_at_call 45;with_reducible exact Grew.call (lS _ _ aX.out))|(go_at_call 21;with_reducible exact Zd (hJ _ _ _))))
        refine Zyi ?_;intro wb h G aA;clear aH aG;have P0:=Zx h a;clear a O C K aN h;have M:=i' X.out.symm;have z:=M.out;by_cases R:E=0
        .subst R;go_wp2_with (go_at_call 19;refine(B0 _ _ _ _ _).mono ?_;rw[z];rintro e w' ⟨rfl,rfl⟩);go_roundw;case rel=>exact⟨k+1,Qa,Qj,(fun j hj=>by
          by_cases aQ:j=k;·rw[aQ,N.out]
          .exact B.out j Qa),Zz P0 _,via G (ZB _ _)⟩
         case measure=>exact Qv
        .have bK : (E != 0) = true := by simpa using R
         have aV:=i' (show V=((k:Int),E)by rw[aU.out,kZ (dZ F es) 0 k (by simp[dZ];rw[Y.out];exact aI) B.out (by rw[N.out];exact R),N.out];simp);go_wp2_with (go_at_call 19;refine(B0 _ _ _ _ _).mono ?_;rw[z];rintro e w' ⟨rfl,rfl⟩);go_ret2;exact⟨by rw[aV.out];rfl,Qi⟩
      .obtain rfl:d=k:=Qa
       have cF:=i' (show V=(0,0)by rw[aU.out,R2 (dZ F es) 0 fun i v=>B.out i (by simp[dZ]at v;rw[Y.out]at v;exact v)]);go_wp2;go_ret2;exact⟨by rw[cF.out];rfl,I⟩
 .have cK : (S != 0) = true := by simpa using bD
  have aT:=i' (show V=(0,S)by rw[hv.out,r4 bD]);have z:=M.out;go_wp2_with (go_at_call 19;refine(eP _ _ _).mono ?_;rw[z];rintro e w' ⟨rfl,rfl⟩);go_ret2;exact⟨by rw[aT.out];rfl,Qi⟩
def a8(p h:Option Addr)(q j u a:Nat)(ps:List Pa)(es:List En)(w:World)(hB:BookAt w p q ps h j es)(hF:FewB ps es)(D:ps.length=u)(z:es.length=a):Calls prog 38 #[.agg #[.slice p u q,.slice h a j]] w (Qt w ((h0 ps es).2)):=by have E:=i' (T4 p h q j u a ps es (w.alloc (.cells #[.slice p u q,.slice h a j] 25)) (hB.below (ZB _ _)) hF D z);go_enter func38,ntmps38;go_wp2_with (go_at_call 62;refine E.out.mono ?_;rintro e b ⟨rfl,y⟩);go_ret;exact⟨rfl,via (ZB _ _) y⟩
def bP(ps:List Pa)(es:List En)(k a:Int):Int:=Z4 [(h0 ps es).2,bV k a]
def pZ(z u:Option Addr)(D y F a:Nat)(ps:List Pa)(es:List En)(k b:Int)(w:World)(hB:BookAt w z D ps u y es)(hF:FewB ps es)(q:ps.length=F)(p:es.length=a):Calls prog 20 #[.agg #[.slice z F D,.slice u a y],.agg #[k,b]] w (Qt w (bP ps es k b)):=by
 unfold bP;have O:=i' fun W (V:QB w W)=>a8 z u D y F a ps es W (hB.below V) hF q p;obtain⟨E,R⟩:=Qu ((h0 ps es).2);rw[R]at O |-;clear hB hF q p R;go_enter func20,ntmps20;go_wp2;refine e9 ?_;intro N h;have G:QB w N:=by rw[h];go_grown
 have S:N.heap[w.heap.size]?=some (.cells #[.slice z F D,.slice u a y] 25):=by rw[h];exact Qs
 have U:N.heap[w.heap.size+1]?=some (.cells #[k,b] 27):=by rw[h];exact Qs
 have X:=bk2 S;have Y:=bk2 U;clear h;refine B9 w 4 Qb Qb G ?_;intro I j;simp only[m',sT,e5,sA];repeat (go_big_quiet_step (first
  |(go_at_call 38;with_reducible exact Grew.call (O.out _ (j.out _)))|(go_at_call 46;with_reducible exact Grew.call (pY _ _ _))))
 refine Zyi ?_;intro Z H L J;clear I j;go_wp2_with (go_at_call 19;refine(eP _ _ _).mono ?_;rintro e c ⟨rfl,rfl⟩);go_ret;exact⟨rfl,Qi⟩
def ZM(ps:List Pa)(k ag:Int):List Int:=ps.map fun p=>if k=0 then p.a0 else if ag<=p.a0 then 1 else 0
def zQ{ps:List Pa} {k ag:Int} {j:Nat} {p:Pa} (h:ps[j]?=some p):ZM (ps.take (j+1)) k ag=ZM (ps.take j) k ag++[if k=0 then p.a0 else if ag<=p.a0 then 1 else 0]:=by unfold ZM;rw[w9,h];simp
def p6(t eA:Option Addr)(pc ec I en:Nat)(ps:List Pa)(k ag:Int)(w:World)(r:At 5 Pa.cs w t ps)(m:ps.length=I)(hp:I<=1000):Calls prog 23 #[.agg #[.slice t I pc,.slice eA en ec],.agg #[k,ag]] w fun e B=>(∃A c,e=.returned (.slice A I c)/\B.ownsRow w.heap.size 3 1 (.slice A I c) I ((ZM ps k ag).map (Value.int .i64)))/\QB w B:=by
 have M:=i' r;have N:=i' m;obtain⟨l,g,U,V,X⟩:=x0 info3;clear r m;go_enter func23,ntmps23;go_wp2;go_loopw [5,11] (fun v i wr=>∃j:Nat,j<=I/\i=.int .i64 j/\Hid (wr.ownsRow (w.heap.size+2) 3 1 v j ((ZM (ps.take j) k ag).map (Value.int .i64)))/\wr.heap[w.heap.size+1]?=some (.cells #[k,ag] 27)/\QB w wr)(fun _ i _=>I-(intOf i).toNat);case atStart=>exact⟨0,e6 _,rfl,i' (hM _ _ _ _),Qs,Qi⟩
 case round=>
  obtain⟨j,hj,rfl,G,d,H⟩:=hrel;obtain⟨C,c5,rfl⟩:=Z2 G.out;have D1:=bk2 d;have aH:=ZE d;by_cases W:j<I
  .have aG:(j:Int)<(I:Int):=Qa
   obtain⟨p,S⟩:∃p,ps[j]?=some p:=⟨_,k2 (by rw[N.out];exact W)⟩;obtain⟨b,o,rfl,aF,Y⟩:=M.out.below H j p S;have y0:=Y 0 _ rfl;have y1:=Y 1 _ rfl;have y2:=Y 2 _ rfl;have y3:=Y 3 _ rfl;have y4:=Y 4 _ rfl;simp only[sW]at y0;have E:=i' (zQ (k:=k) (ag:=ag) S);have D:=i' (ZL G.out (ZB wr (.cells #[.string p.nm,p.a0,p.a1,p.c0,p.c1] 65)));have J:=i' (via H (ZB wr (.cells #[.string p.nm,p.a0,p.a1,p.c0,p.c1] 65)));have f:=Zz d (.cells #[.string p.nm,p.a0,p.a1,p.c0,p.c1] 65);clear Y S G;by_cases L:k=0
   .have Q:(k==0)=true:=by simp[L]
    have q:=i' (show ZM (ps.take (j+1)) k ag=ZM (ps.take j) k ag++[p.a0]by rw[E.out,r4 L]);replace E:=q;clear q L;go_wp2_with (at_builtin;refine C0 _ rfl _ _ 30 rfl (w.heap.size+2) 3 l (.int .i64 0) 1 8 underlying30 g U V X rfl Qc _ _ _ rfl (D.out.alloc _) ⟨wr.heap.size+1,0,none⟩ 1 1 [.int .i64 (p.a0)] rfl rfl ?c1 ?c2 ?c3 ?c4 ?c5 ?_);try (case c1=>exact P2 _ [.int .i64 (p.a0)] _ Qd)
    case c2=>first|rfl|(intro u O;simp at O;subst O;rfl)
    case c3=>first|omega|(unfold maxLen;omega)
    case c4=>omega
    case c5=>have:=H.size;first|omega|(simp;omega)
    intro a R h y _;have z:=i' (show R.ownsRow (w.heap.size+2) 3 1 a (j+1) ((ZM (ps.take (j+1)) k ag).map (Value.int .i64))from by rw[E.out,b3];exact h);have Z:=G1 y (Zz f _) (v8 D.out Qa);have F:QB w R:=ZW (via J.out (ZB _ _)) y fun b e=>by have:=(D.out.lt b e).1;omega
    clear h y;go_wp2;go_roundw;case rel=>exact⟨j+1,Qa,Qj,z.out,Z,F⟩
    case measure=>exact Qv
   .have Q:(k==0)=false:=by simpa using L
    by_cases s:ag<=p.a0
    .have q:=i' (show ZM (ps.take (j+1)) k ag=ZM (ps.take j) k ag++[1]by rw[E.out,Zc9 L,r4 s]);replace E:=q;clear q L;go_wp2_with (at_builtin;refine C0 _ rfl _ _ 30 rfl (w.heap.size+2) 3 l (.int .i64 0) 1 8 underlying30 g U V X rfl Qc _ _ _ rfl (D.out.alloc _) ⟨wr.heap.size+1,0,none⟩ 1 1 [.int .i64 (1)] rfl rfl ?c1 ?c2 ?c3 ?c4 ?c5 ?_);try (case c1=>exact P2 _ [.int .i64 (1)] _ Qd)
     case c2=>first|rfl|(intro u O;simp at O;subst O;rfl)
     case c3=>first|omega|(unfold maxLen;omega)
     case c4=>omega
     case c5=>have:=H.size;first|omega|(simp;omega)
     intro a R h y _;have z:=i' (show R.ownsRow (w.heap.size+2) 3 1 a (j+1) ((ZM (ps.take (j+1)) k ag).map (Value.int .i64))from by rw[E.out,b3];exact h);have Z:=G1 y (Zz f _) (v8 D.out Qa);have F:QB w R:=ZW (via J.out (ZB _ _)) y fun b e=>by have:=(D.out.lt b e).1;omega
     clear h y;go_wp2;go_roundw;case rel=>exact⟨j+1,Qa,Qj,z.out,Z,F⟩
     case measure=>exact Qv
    .have q:=i' (show ZM (ps.take (j+1)) k ag=ZM (ps.take j) k ag++[0]by rw[E.out,Zc9 L,Zc9 s]);replace E:=q;clear q L;go_wp2_with (at_builtin;refine C0 _ rfl _ _ 30 rfl (w.heap.size+2) 3 l (.int .i64 0) 1 8 underlying30 g U V X rfl Qc _ _ _ rfl (D.out.alloc _) ⟨wr.heap.size+1,0,none⟩ 1 1 [.int .i64 (0)] rfl rfl ?c1 ?c2 ?c3 ?c4 ?c5 ?_);try (case c1=>exact P2 _ [.int .i64 (0)] _ Qd)
     case c2=>first|rfl|(intro u O;simp at O;subst O;rfl)
     case c3=>first|omega|(unfold maxLen;omega)
     case c4=>omega
     case c5=>have:=H.size;first|omega|(simp;omega)
     intro a R h y _;have z:=i' (show R.ownsRow (w.heap.size+2) 3 1 a (j+1) ((ZM (ps.take (j+1)) k ag).map (Value.int .i64))from by rw[E.out,b3];exact h);have Z:=G1 y (Zz f _) (v8 D.out Qa);have F:QB w R:=ZW (via J.out (ZB _ _)) y fun b e=>by have:=(D.out.lt b e).1;omega
     clear h y;go_wp2;go_roundw;case rel=>exact⟨j+1,Qa,Qj,z.out,Z,F⟩
     case measure=>exact Qv
  .obtain rfl:I=j:=Qa
   have K:=i' (show ps.take I=ps by rw[<-N.out,x1]);go_wp2;go_ret;exact⟨⟨C,c5,rfl,b2 (by have:=G.out;rwa [K.out]at this) (iL _ 2)⟩,H⟩
end Go.Proofs
namespace Go.Proofs
open Go.RowKit
variable {n lo hi k ag:Int} {ps:List Pa} {es:List En}
def aS{es:List Int}:Z4 es=0↔∀e∈es,e=0:=by induction es with
 |nil=>simp[Z4]|cons e es ih=>
  unfold Z4;by_cases h:e=0;·rw[r4 h,ih];simp[h]
  .rw[Zc9 h];simp[h]
def cJ{b:Bool} (h:n≠0):unl b n=0↔b=true:=by unfold unl;cases b<;>simp[h]
def r2:Z6 n lo hi=true↔lo<=n/\n<=hi:=by simp[Z6]
def F5:∀(l:List Int)(k:Nat),fV l k=none->∀i,i<l.length->l.getD i 0=0
 |[],_,_,i,h=>by simp at h|e::l,k,h,i,hi=>by
  unfold fV at h;split at h;·rename_i j;cases i with
   |zero=>simpa using j|succ i=>simpa using F5 l (k+1) h i (by simpa using hi)
  .cases h
def F6:∀(l:List Int)(k:Nat) {i:Nat} {e:Int},fV l k=some (i,e)->e≠0
 |[],_,_,_,h=>by cases h|e::l,k,i,e',h=>by
  unfold fV at h;split at h;·exact F6 l (k+1) h
  .rename_i j;cases h;exact j
def nD{m:Int}:eG lo hi m=0↔0<=lo/\lo<=m/\0<=hi/\hi<=m/\lo<=hi:=by unfold eG;rw[aS];simp only[ZA1,ZBj,Zyj,dL,dM];rw[cJ Qc,cJ Qc,aY,r2,r2,z1];omega
structure BookR (ps:List Pa)(es:List En):Prop where
 n1:1<=ps.length
 n5:ps.length<=5
 e8:es.length<=8
 part:∀i p,ps[i]?=some p->c6 p.nm.data.toList=true/\(ps.take i).any (fun q=>eqS q.nm p.nm)=false/\(0<=p.a0/\p.a0<=400/\0<=p.a1/\p.a1<=400/\p.a0<=p.a1)/\(0<=p.c0/\p.c0<=20/\0<=p.c1/\p.c1<=20/\p.c0<=p.c1)
 ent:∀i x,es[i]?=some x->c6 x.nm.data.toList=true/\(es.take i).any (fun y=>eqS y.nm x.nm)=false/\x.co.length=ps.length/\∀n∈x.mo::x.co,n.natAbs<=20
def hI:(h0 ps es).2=0↔BookR ps es:=by
 have I:cQ ps.length=0↔1<=ps.length/\ps.length<=5:=by unfold cQ;rw[aS];simp only[ZA1,ZBj,Zyj,dL,dM];rw[cJ Qc,cJ Qc,z1,z1];omega
 have H:∀i p,cR ps i p=0↔c6 p.nm.data.toList=true/\(ps.take i).any (fun q=>eqS q.nm p.nm)=false/\(0<=p.a0/\p.a0<=400/\0<=p.a1/\p.a1<=400/\p.a0<=p.a1)/\(0<=p.c0/\p.c0<=20/\0<=p.c1/\p.c1<=20/\p.c0<=p.c1):=fun i p=>by unfold cR;rw[aS];simp only[ZA1,ZBj,Zyj,dL,dM];rw[cJ Qc,cJ Qc,nD,nD,b5]
 have G:∀i x,cS ps.length es i x=0↔c6 x.nm.data.toList=true/\(es.take i).any (fun y=>eqS y.nm x.nm)=false/\x.co.length=ps.length/\∀n∈x.mo::x.co,n.natAbs<=20:=fun i x=>by
  unfold cS;rw[aS];simp only[ZA1,ZBj,Zyj,dL,dM];rw[cJ Qc,cJ Qc,cJ Qc,cJ Qc,b5,b5,z1];have z:∀n:Int,hT n 20=true↔n.natAbs<=20:=fun n=>by unfold hT;rw[r2];omega
  have:(x.mo::x.co).any (fun n=>!hT n 20)=false↔∀n∈x.mo::x.co,n.natAbs<=20:=by
   rw[bN];constructor;·intro h n F;have:=h n F;rw[<-z];simpa using this
   .intro h n F;have:=(z n).2 (h n F);simp[this]
  rw[this];simp
 unfold h0;constructor
 .intro h;split at h;·rename_i u;exact absurd h u
  .rename_i u;have u:=I.1 (by simpa using u);split at h;·rename_i k e D;exact absurd h (F6 _ _ D)
   .rename_i D;split at h;·cases h
    .rename_i J;split at h;·rename_i k e E;exact absurd h (F6 _ _ E)
     .rename_i E;refine⟨u.1,u.2,Qa,fun i p hi=>?_,fun i x hi=>?_⟩;·rw[<-H,<-X2 hi];exact F5 _ _ D i (by simpa [cX] using (y'.1 hi).1)
      .rw[<-G,<-L2 hi];exact F5 _ _ E i (by simpa [dZ] using (y'.1 hi).1)
 .intro h;rw[Zc9 (by simp[I.2 ⟨h.n1,h.n5⟩])];rw[R2 (cX ps) 0 fun i hi=>by
   have j:i<ps.length:=by simpa [cX] using hi
   rw[X2 (k2 j),H];exact h.part i _ (k2 j)];simp only;rw[Zc9 (by have:=h.e8;omega)];rw[R2 (dZ ps.length es) 0 fun i hi=>by
   have j:i<es.length:=by simpa [dZ] using hi
   rw[L2 (k2 j),G];exact h.ent i _ (k2 j)]
def BookR.right(h:BookR ps es):RightE es ps.length:=by refine⟨h.e8,fun x u=>?_⟩;obtain⟨i,hi⟩:=r1.1 u;obtain⟨-,-,p,j⟩:=h.ent i x hi;exact⟨p,fun n q=>j n (N2 _ q),j _ Qd⟩
def BookR.worths(h:BookR ps es)(k ag:Int):ZN 400 (ZM ps k ag):=by
 intro n j;obtain⟨p,q,rfl⟩:=L'.1 j;obtain⟨i,hi⟩:=r1.1 q;obtain⟨-,-,u,-⟩:=h.part i p hi;split;·omega
 .split<;>decide
def lA:bP ps es k ag=0↔BookR ps es/\bV k ag=0:=by unfold bP;rw[aS];simp only[ZA1,ZBj,Zyj,dL,dM];rw[hI]
def nE:bV k ag=0↔(k=0∨k=1)/\0<=ag/\ag<=400:=by unfold bV;rw[aS];simp only[ZA1,ZBj,Zyj,dL,dM];rw[cJ Qc,cJ Qc,r2,r2];omega
end Go.Proofs
