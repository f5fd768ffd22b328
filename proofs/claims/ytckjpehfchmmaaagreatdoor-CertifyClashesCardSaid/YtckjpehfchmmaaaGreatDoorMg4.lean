import Derived.Test.YtckjpehfchmmaaaGreatDoorMg3
import Derived.Handy
import Derived.WalkLawsBesides
import Derived.WalkSpells
import Derived.Lib.ConvBytes
import Derived.Lib.Hide
import Derived.StillTail
import Derived.BigQuiet
import Derived.RangeFuncKeeps
import Derived.Deep.OwnRows
import Derived.Laws.AppendOwnNone
import Derived.Deep.AppendLies
set_option linter.all false
def Qu.{u}{α:Sort u}(a:α):∃x,a=x:=⟨a,rfl⟩
def Qs{P:Prop}(h:P:=by (repeat (first|assumption|(refine ZA _ _ ?_;(simp;done))|refine ZD ?_|refine Zz ?_ _|refine ZC ?_ (by simp<;>omega) _))):P:=h
def Qr{P:Prop}(h:P:=by trivial):P:=h
def Qq{P:Prop}(h:P:=by unfold maxLen;omega):P:=h
def Qm{P:Prop}(h:P:=by decide+kernel):P:=h
def Qj{P:Prop}(h:P:=by go_num):P:=h
def Qi{P:Prop}(h:P:=by go_grown):P:=h
def Qf{P:Prop}(h:P:=by simp<;>omega):P:=h
set_option maxRecDepth 100000
set_option maxHeartbeats 16000000
namespace Go
def D1:=@congrArg
def Zyh:=@wpQuiet_nil
def e5:=@bodyPost_ret
def x0:=@info_parts
def w7:=@wp_region_any
def hG:=@World.ownsRow_nil
def fI:=@mem_ready
def C0:=@wpList_append_own
def P3:=@World.size_alloc
def gD:=@getD_set_ne
def dH:=@forall_eq_or_imp
def dI:=@forall_eq
def cG:=@lt_of_block
def kS:=@run_store
def U8:=@Nat.succ_mul
def l7:=@wpList_plain
def U9:=@not_true_eq_false
def nC:=@Bool.and_true
def Sp:=@heap_alloc_new
def a6:=@Int.natAbs_mul
def a7:=@List.map_congr_left
def tJ:=@Int.natCast_zero
def tK:=@Int.natCast_one
def tL:=@Int.cast_ofNat_Int
def nD:=@List.take_set
def a8:=@List.mapM_toArray
def b7:=@map_eq_pure_bind
def pL:=@World.cell?_alloc_at
def pM:=@RowKit.Below.heap_alloc
def F6:=@Int.add_assoc
def pN:=@List.range_succ_eq_map
def pO:=@List.map_id
def pP:=@Int.mul_assoc
def pQ:=@Nat.pow_succ
def pR:=@Nat.one_mul
def pS:=@Nat.div_le_self
def pT:=@List.mem_or_eq_of_mem_set
def uV:=@decide_eq_decide
def zE:=@Int.mul_tdiv_add_tmod
def zF:=@Int.mul_add_ediv_left
def zG:=@Int.ediv_eq_zero_of_lt
def zH:=@Lib.bytesWorld_size
def zI:=@Lib.bytesWorld_at_old
def zJ:=@Region.noSelect_spec
def H0:=@getD_replicate_false
def zK:=@Int.mul_ediv_cancel'
def zL:=@Nat.shiftRight_eq_div_pow
def zM:=@Nat.mod_two_eq_zero_or_one
def A6:=@RowKit.Below.heap_setCell
def m':=@RowKit.Below.refl
def S3:=@Bool.false_or
def k4:=@Bool.true_or
def j0:=@IntWalk.i64_in
def i':=@Lib.hid
def gP:=@List.any_append
def bM:=@List.any_eq_false
def h0:=@List.any_eq_true
def Ap:=@List.append_assoc
def b6:=@List.append_toArray
def M3:=@List.cons_append
def iJ:=@List.drop_eq_getElem_cons
def sA:=@List.drop_succ_cons
def B9:=@List.drop_zero
def Q0:=@List.eq_nil_of_length_eq_zero
def aO:=@List.filter_cons
def W2:=@List.flatMap_cons
def hR:=@List.getD_cons_succ
def e3:=@List.getD_cons_zero
def h6:=@List.getD_eq_getElem?_getD
def aL:=@List.getElem?_append_left
def hS:=@List.getElem?_append_right
def B4:=@List.getElem?_cons_succ
def S':=@List.getElem?_cons_zero
def gZ:=@List.getElem?_drop
def h':=@List.getElem?_eq_getElem
def M0:=@List.getElem?_eq_some_iff
def k2:=@List.getElem?_map
def c7:=@List.getElem?_replicate
def aT:=@List.getElem?_set
def dN:=@List.getElem?_take
def D2:=@List.getElem_mem
def eU:=@List.getElem_of_mem
def L':=@List.length_cons
def B3:=@List.length_map
def y5:=@List.length_take
def b4:=@List.map_append
def dJ:=@List.map_map
def sY:=@List.mem_append_left
def A5:=@List.mem_cons_of_mem
def hT:=@List.mem_iff_getElem?
def b3:=@List.mem_map
def y0:=@List.mem_range
def Q3:=@List.nil_append
def ZBg:=@List.not_mem_nil
def cM:=@List.range_succ
def l8:=@List.replicate_succ
def iA:=@List.set_append_right
def A8:=@List.size_toArray
def aF:=@List.sum_cons
def r4:=@List.take_add_one
def x1:=@List.take_length
def h9:=@List.take_of_length_le
def sT:=@List.take_succ_cons
def l9:=@List.take_succ_eq_append_getElem
def p':=@List.take_zero
def w5:=@Nat.add_mul
def e4:=@Nat.add_sub_cancel
def gA:=@Nat.lt_or_ge
def U2:=@Nat.min_eq_left
def hI:=@Nat.mul_le_mul
def C2:=@Nat.mul_le_mul_right
def p1:=@Nat.mul_one
def jE:=@Nat.pow_le_pow_right
def n9:=@Nat.two_pow_pos
end Go
namespace Go.Proofs
open Tryz
open Go.RowKit
variable {l:List UInt8} {k:Nat}
def aU{k:IntKind} {a b:Int} (h:a=b):Ending.returned (.int k a)=.returned (.int k b):=by rw[h]
def Q6(n b:Int)(a:0<b)(h:n.tmod b<0):n.tdiv b-1=n / b:=by
 have j:=zE n b;have m:-b<n.tmod b:=by have:=Int.lt_tmod_of_pos n a;omega
 rw[eq_comm];have:n=b*(n.tdiv b-1)+(n.tmod b+b):=by rw[Int.mul_sub];omega
 rw[this,zF _ _ Qa,zG Qa Qa];rw[<-this];omega
def Q8(n b:Int)(a:0<b)(h:0<=n.tmod b):n.tdiv b=n / b:=by
 have j:=zE n b;have m:=Int.tmod_lt_of_pos n a;rw[eq_comm];have:n=b*(n.tdiv b)+(n.tmod b):=Qa
 rw[this,zF _ _ Qa,zG Qa Qa];rw[<-this];omega
def V0(c:Int):Bool:=(decide (97<=c)&&decide (c<=122))||(decide (65<=c)&&decide (c<=90))
def bB(i:Nat)(c:Int):Bool:=V0 c||(decide (i≠0)&&(decide (c=45)||(decide (48<=c)&&decide (c<=57))))
def hQ(l:List UInt8):Bool:=(List.range l.length).all fun i=>bB i ((l.getD i 0).toNat:Int)
def c6(l:List UInt8):Bool:=decide (1<=l.length)&&decide (l.length<=12)&&hQ l
def zN(l:List UInt8)(h:∀j,j<l.length->bB j ((l.getD j 0).toNat:Int)=true):hQ l=true:=by unfold hQ;rw[bK];intro j m;exact h j (y0.1 m)
def RA(l:List UInt8)(j:Nat)(m:j<l.length)(h:bB j ((l.getD j 0).toNat:Int)=false):hQ l=false:=by unfold hQ;rw[List.all_eq_false];exact⟨j,y0.2 m,by rw[h];decide⟩
def uW{c:UInt8} (h:Hid (∀j,j<k->bB j ((l.getD j 0).toNat:Int)=true))(p:Hid (l.getD k 0=c))(m:bB k (c.toNat:Int)=true):Hid (∀j,j<k+1->bB j ((l.getD j 0).toNat:Int)=true):=by
 intro j q;by_cases e:j=k;·subst e;rw[p.out];exact m
 .exact h.out j Qa
def uX{n:Nat} {c:UInt8} (p:Hid (l.length=n))(m:k<n)(j:Hid (l.getD k 0=c))(h:bB k (c.toNat:Int)=false):c6 l=false:=by unfold c6;rw[RA l k (by rw[p.out];exact m) (by rw[j.out];exact h)];simp
def uY(k:Nat)(c:Int)(h:(97<=c/\c<=122)∨(65<=c/\c<=90)∨(k≠0/\(c=45∨(48<=c/\c<=57)))):bB k c=true:=by unfold bB V0;simp only[dR,aY,z1];omega
def uZ(k:Nat)(c:Int)(h:¬((97<=c/\c<=122)∨(65<=c/\c<=90)∨(k≠0/\(c=45∨(48<=c/\c<=57))))):bB k c=false:=by rw[<-Bool.not_eq_true];unfold bB V0;simp only[dR,aY,z1];omega
def RB(l:List UInt8)(n:Nat)(j:l.length=n)(h:hQ l=true):c6 l=(!l.isEmpty&&decide ((n:Int)<=12)):=by unfold c6;rw[h,nC,<-j];cases l<;>simp;omega
def gB{a b:Bool} (h:a=b):Ending.returned a=.returned b:=by rw[h]
abbrev _root_.QB(w x:World):Prop:=Below w.heap.size w x
abbrev _root_.Qt(w:World)(v:Value)(e:Ending)(x:World):Prop:=e=.returned v/\Below w.heap.size w x
def mA(s:ByteArray)(w:World)(b:s.size<=9223372036854775807):Calls prog 46 #[.string s] w (Qt w (c6 s.data.toList)):=by
  have p:=fun W:World=>Lib.run_convert_string_bytes (P:=prog) W 9 139 5 s underlying9 underlying139 underlying5;have G:Hid (QB w (Lib.bytesWorld w 5 s)):=⟨rfl,rfl,rfl,by rw[zH];omega,fun k H=>zI w 5 s k H⟩;have h:Hid (s.data.toList.length=s.size):=by simp[Hid]
  go_enter func46,ntmps46;go_wp2;clear p;go_loop [9] (fun i=>∃k:Nat,k<=s.size/\i=.int .i64 k/\Hid (∀j,j<k->bB j ((s.data.toList.getD j 0).toNat:Int)=true))(fun i=>s.size-(intOf i).toNat);case atStart=>exact⟨0,e6 _,rfl,fun j E=>Qa⟩
  case round=>
    obtain⟨k,H,rfl,y⟩:=hrel;by_cases u:k<s.size
    . obtain⟨c,z⟩:∃c:UInt8,s.data.toList.getD k 0=c:=⟨_,rfl⟩;have m:=Lib.bytesWorld_cell w 5 s k u;rw[z]at m;have q:=i' z;clear z;have I:(0:Int)<=(c.toNat:Int):=Qa
      go_wp2;all_goals first
        |(exfalso;simp at*;omega)
        | (go_round;case rel=>exact⟨k+1,Qa,Qj,uW y q (uY _ _ (by simp at*;omega))⟩
           case measure=>simp[intOf];omega)|(go_ret;exact⟨gB (uX (k:=k) h u q (uZ _ _ (by simp at*;omega))).symm,G.out⟩)
    . have F:k=s.size:=Qa
      subst F;by_cases J:s.toList=[];all_goals go_wp2;go_ret;refine⟨gB ?_,G.out⟩;have D:hQ s.data.toList=true:=zN _ (fun j E=>y.out j (by rw[h.out]at E;exact E));rw[RB _ _ h.out D,<-ByteArray.toList_eq]<;>simp[J]
end Go.Proofs
namespace Go.Proofs
open Go.RowKit
variable {w:World} {P:Program} {f:FuncId} {args:Array Value} {v:Value} {a:Act} {id:Nat} {Q:Exit->Act->World->Prop} {l:List Oper}
section
variable {P:Program} {ops:Array Oper} {md:Region.Mode} {C:World->Prop}
def mB(P:Program)(md:Region.Mode)(ops:Array Oper)(C:World->Prop)(n:Nat)(L:Array Bool->Act->Prop):Nat->Array Bool->Act->Prop|0,listed,a=>L listed a|f+1,listed,a=>Region.ready md ops listed≠[]/\∀i∈Region.ready md ops listed,i<n/\qOp P ops C i (mB P md ops C n L f (listed.setIfInBounds i true)) a
def H2{n g:Nat} {L:Array Bool->Act->Prop} {Q':Exit->Act->World->Prop} (b:∀j a w,C w->L j a->wpAny P md ops Q' g j a w):∀(f:Nat)(j:Array Bool)(a:Act)(w:World),C w->mB P md ops C n L f j a->wpAny P md ops Q' (f+g) j a w|0,j,a,w,hw,h=>by rw[w0];exact b _ _ _ hw h|f+1,j,a,w,hw,h=>by rw[show f+1+g=(f+g)+1 by omega];exact⟨fun u=>absurd u h.1,fun i c=>wpOp_of_qOp hw (fun p d m q=>H2 b f _ p d m q) (h.2 i c).2⟩
def RD{n i:Nat} {O:Oper} {v:Value} {L:Array Bool->Act->Prop} (d:ops[i]?=some O)(F:∀(j:Nat)(o:Oper) cs b,ops[j]?=some o->o.op≠.select cs b)(t:Region.sinkB md ops n=true)(r:Region.chainB md ops n=true)(s:n<ops.size)(S:i<n)(G:∀m a,L m a->∀j∈Region.ready md ops m,n<=j):∀(f:Nat)(m:Array Bool)(a:Act),HeadInv md ops n m->(∀j N,ops[j]?=some N->j≠i->m.getD j true=false->(∀e∈N.after,Region.binds md e=true->e.on≠i)->O.apart ops N=true)->i∈Region.ready md ops m->YieldsIn P ops C O v a->mB P md ops C n L f (m.setIfInBounds i true) (a.put O.dst v)->mB P md ops C n L (f+1) m a:=by intro f;induction f with
 |zero=>
  intro m a D _ z c H;refine⟨fun h=>(by rw[h]at z;cases z),fun j I=>?_⟩;have y:j<n:=by
   rcases gA j n with h|h;·exact h
   .exact absurd I (tail_waits t r s D _ i rfl S (fI.1 z).1 j h)
  refine⟨y,?_⟩;by_cases p:j=i;·subst p;exact c.qOp d H
  .have:=G _ _ H j (ready_mono I p);omega|succ f ih=>
  intro m a D q z c H;refine⟨fun h=>(by rw[h]at z;cases z),fun j I=>?_⟩;have y:j<n:=by
   rcases gA j n with h|h;·exact h
   .exact absurd I (tail_waits t r s D _ i rfl S (fI.1 z).1 j h)
  refine⟨y,?_⟩;by_cases p:j=i;·subst p;exact c.qOp d H
  .have Z:=(H.2 j (ready_mono I p)).2;obtain⟨E,N,J,R⟩:=fI.1 I;have V:∀e∈N.after,Region.binds md e=true->e.on≠i:=fun e he W A=>by have Z:=R e he W;have M:=(fI.1 z).1;rw[A,getD_both M]at Z;cases Z
   have T:=qOp_put J (q j N J p E V) (fun cs b=>F i O cs b d) (fun cs b=>F j N cs b J) c Z;have u:∀k Y,ops[k]?=some Y->k≠i->(m.setIfInBounds j true).getD k true=false->(∀e∈Y.after,Region.binds md e=true->e.on≠i)->O.apart ops Y=true:=fun k Y hk B X K=>by
    refine q k Y hk B ?_ K;by_cases U:j=k;·subst U;exact E
    .rw[gD true U]at X;exact X
   refine qOp_mono (fun x g=>ih (m.setIfInBounds j true) x (D.set I y) u (ready_mono z (e0 p)) g.1 ?_) T;rw[Array.setIfInBounds_comm _ _ p];exact g.2
def H3{n g:Nat} {D:Act->Prop} (p:Region.noSelect ops=true)(b:Region.sinkB md ops n=true)(G:Region.chainB md ops n=true)(H:n<ops.size):∀(l:List Oper)(k:Nat)(m:Array Bool)(a:Act),(∀j,j<l.length->l[j]?=ops[k+j]?)->k+l.length=n->HeadInv md ops n m->Region.lexHead md ops g l.length k m=true->wpQuiet P ops C D l a->mB P md ops C n (fun m a=>Region.seqB md ops g n m=true/\D a) l.length m a
 |[],k,m,a,_,hk,_,hB,h=>by
  have:k=n:=by simpa using hk
  subst this;exact⟨by simpa [Region.lexHead] using hB,h⟩|o::l,k,m,a,hl,hk,inv,hB,h=>by
  have z:ops[k]?=some o:=by simpa using (hl 0 Qd).symm
  simp only[L',Region.lexHead,aY]at hB;obtain⟨⟨N,L⟩,E⟩:=hB;have q:k<n:=by simp only[L']at hk;omega
  have u:k∈Region.ready md ops m:=by simpa using N
  have F:qOp P ops C k (wpQuiet P ops C D l) a:=by unfold qOp;simp only[z];exact h
  obtain⟨v,O,I⟩:=yieldsIn_of_qOp z F;exact RD z (zJ p) b G H q (fun y R J=>seqB_ready J.1) l.length m a inv (Region.free_spec z L) u O (H3 p b G H l (k+1) _ _ (fun j S=>by have:=hl (j+1) Qk;simpa [iD,aD 1 j] using this) (by simp only[L']at hk;omega) (inv.set u q) E I)
def RE{id:Nat} {Q:Exit->Act->World->Prop} {a:Act} {w:World} {l:List Oper} (n:Nat)(d:P.follows .mixedOrders=true)(c:Region.lexTailB .any l.toArray n=true)(N:C {w with drawn:=w.drawn+1})(h:wpQuiet P l.toArray C (fun D=>∀b,C b->wpList P l.toArray Q (l.drop n) D b) (l.take n) a):(Code.region id l.toArray true).wp P Q a w:=by
 simp only[Region.lexTailB,aY,z1]at c;obtain⟨⟨⟨⟨y,L⟩,S⟩,O⟩,u⟩:=c;have R:n<l.length:=by simpa using L
 have m:(l.take n).length=n:=Qk
 have q:(l.drop n).length=l.toArray.size-n:=Qd
 have z:HeadInv .any l.toArray n (Array.replicate l.toArray.size false):=⟨Qd,fun j V _ J=>(by rw[H0]at J;cases J),fun t _ U=>getD_in (by simpa using U) (H0 _ _)⟩;have H:=H3 (C:=C) (P:=P) (md:=.any) (g:=l.toArray.size-n) y S O L (l.take n) 0 _ a (fun j I=>by
  have E:j<n:=by rw[m]at I;exact I
  simp[E]) (by simpa using m) z (by rw[m];exact u) h;refine w7 d ?_;have:=H2 (Q':=Q) (g:=l.toArray.size-n) (fun p D b F G=>by have:=wpAny_of_seq (md:=.any) (Q':=Q) (l.drop n) n p D b (fun j=>by simp[gZ]) (by rw[q];exact G.1) (G.2 b F);rwa [q]at this) _ _ _ _ N H;rw[m,show n+(l.toArray.size-n)=l.toArray.size by omega]at this;exact this
end
structure Grew (w:World) where
 val:World
 ok:QB w val
instance (w:World):Nonempty (Grew w):=⟨⟨w,m' _ w⟩⟩
def Grew.cell(x:Grew w)(b o:Nat)(h:b<w.heap.size):x.val.cell? ⟨b,o,none⟩=w.cell? ⟨b,o,none⟩:=x.ok.cell (p:=⟨b,o,none⟩) h
def Grew.call{x:Grew w} (h:Calls P f args x.val fun e r=>e=.returned v/\Below x.val.heap.size x.val r):Calls P f args x.val fun e j=>e=.returned v/\∃y:Grew w,j=y.val:=h.mono fun _ r ⟨p,m⟩=>⟨p,⟨r,x.ok.trans (m.mono x.ok.size)⟩,rfl⟩
def Zd{x:Grew w} (h:Calls P f args x.val fun e b=>e=.returned v/\x.val=b):Calls P f args x.val fun e j=>e=.returned v/\∃y:Grew w,j=y.val:=h.mono fun _ _ ⟨p,m⟩=>⟨p,x,m.symm⟩
def via{a b:World} (h:QB w a)(j:QB a b):QB w b:=h.trans (j.mono h.size)
def H4{a:World} (h:QB w a)(o:Obj):QB w (a.alloc o):=h.alloc h.size o
def ZB(w:World)(o:Obj):QB w (w.alloc o):=(m' _ _).alloc (r3 _) o
def RF(n:Nat)(d:P.follows .mixedOrders=true)(c:Region.lexTailB .any l.toArray n=true)(h:wpQuiet P l.toArray (fun b=>∃x:Grew w,b=x.val) (fun j=>∀x:Grew w,wpList P l.toArray Q (l.drop n) j x.val) (l.take n) a):(Code.region id l.toArray true).wp P Q a w:=by
 refine RE (C:=fun b=>∃x:Grew w,b=x.val) n d c ⟨⟨_,(m' _ w).drew⟩,rfl⟩ ?_;have e:(fun j=>∀b,(∃x:Grew w,b=x.val)->wpList P l.toArray Q (l.drop n) j b)=(fun j=>∀x:Grew w,wpList P l.toArray Q (l.drop n) j x.val):=by funext j;exact propext ⟨fun h x=>h _ ⟨x,rfl⟩,fun h b ⟨x,m⟩=>m▸h x⟩
 rw[e];exact h
def RG(d:P.follows .mixedOrders=true)(c:Region.lexB .any l.toArray=true)(h:wpQuiet P l.toArray (fun b=>∃x:Grew w,b=x.val) (fun j=>∀x:Grew w,Q .normal j x.val) l a):(Code.region id l.toArray true).wp P Q a w:=by
 refine wp_region_quiet (C:=fun b=>∃x:Grew w,b=x.val) d c ⟨⟨_,(m' _ w).drew⟩,rfl⟩ ?_;have e:(fun j=>∀b,(∃x:Grew w,b=x.val)->Q .normal j b)=(fun j=>∀x:Grew w,Q .normal j x.val):=by funext j;exact propext ⟨fun h x=>h _ ⟨x,rfl⟩,fun h b ⟨x,m⟩=>m▸h x⟩
 simp only[e];exact h
def v8(d:World)(n:Nat)(hm:P.follows .mixedOrders=true)(hB:Region.lexTailB .any l.toArray n=true)(hw:QB d w)(h:(∀(x:Grew w)(b o:Nat),b<w.heap.size->x.val.cell? ⟨b,o,none⟩=w.cell? ⟨b,o,none⟩)->Hid (∀x:Grew w,QB d x.val)->wpQuiet P l.toArray (fun q=>∃x:Grew w,q=x.val) (fun m=>∀j,QB w j->QB d j->w.heap.size<=j.heap.size->wpList P l.toArray Q (l.drop n) m j) (l.take n) a):(Code.region id l.toArray true).wp P Q a w:=by
 refine RF n hm hB ?_;have e:(fun m=>∀j,QB w j->QB d j->w.heap.size<=j.heap.size->wpList P l.toArray Q (l.drop n) m j)=(fun m=>∀x:Grew w,wpList P l.toArray Q (l.drop n) m x.val):=by funext m;exact propext ⟨fun h x=>h x.val x.ok (via hw x.ok) x.ok.size,fun h j p _ _=>h ⟨j,p⟩⟩
 rw[<-e];exact h (fun x=>x.cell) (fun x=>via hw x.ok)
def c8(c:World)(q:P.follows .mixedOrders=true)(n:Region.lexB .any l.toArray=true)(d:QB c w)(h:(∀(x:Grew w)(b o:Nat),b<w.heap.size->x.val.cell? ⟨b,o,none⟩=w.cell? ⟨b,o,none⟩)->Hid (∀x:Grew w,QB c x.val)->wpQuiet P l.toArray (fun r=>∃x:Grew w,r=x.val) (fun m=>∀j,QB w j->QB c j->w.heap.size<=j.heap.size->Q .normal m j) l a):(Code.region id l.toArray true).wp P Q a w:=by
 refine RG q n ?_;have e:(fun m=>∀j,QB w j->QB c j->w.heap.size<=j.heap.size->Q .normal m j)=(fun m=>∀x:Grew w,Q .normal m x.val):=by funext m;exact propext ⟨fun h x=>h x.val x.ok (via d x.ok) x.ok.size,fun h j p _ _=>h ⟨j,p⟩⟩
 rw[<-e];exact h (fun x=>x.cell) (fun x=>via d x.ok)
end Go.Proofs
namespace Go.Proofs
open Tryz
open Go.RowKit
def hN(n b a:Int):Bool:=decide (b<=n)&&decide (n<=a)
def dD(n c b:Int)(w:World):Calls prog 30 #[n,c,b] w fun e d=>e=.returned (hN n c b)/\w=d:=by unfold hN;by_cases h:c<=n<;>by_cases j:n<=b;all_goals go_enter func30,ntmps30;go_wp2;go_ret;simp_all
def mC(n b a:Int)(w:World):Calls prog 80 #[n,b,a] w fun e c=>e=.returned (hN n b a)/\w=c:=by unfold hN;by_cases h:b<=n<;>by_cases j:n<=a;all_goals go_enter func80,ntmps80;go_wp2;go_ret;simp_all
def unl(b:Bool)(n:Int):Int:=if b then 0 else n
def hP(b:Bool)(n:Int)(w:World):Calls prog 25 #[b,n] w fun e c=>e=.returned (unl b n)/\w=c:=by cases b;all_goals go_enter func25,ntmps25;go_wp2;go_ret;simp_all[unl]
def Z8:List Int->Int|[]=>0|e::l=>if e=0 then Z8 l else e
def zO(a:List Int):∀k,(∀j,j<k->a.getD j 0=0)->Z8 a=Z8 (a.drop k):=by intro k;induction k generalizing a with|zero=>intro _;simp|succ k ih=>intro h;cases a with|nil=>simp|cons e l=>
   have m:e=0:=by simpa using h 0 Qa
   simp only[Z8,m,Zyk,sA];exact ih l (fun j p=>by simpa using h (j+1) Qa)
def RH(a:List Int)(k:Nat)(m:k<a.length)(h:∀j,j<k->a.getD j 0=0)(b:a.getD k 0≠0):Z8 a=a.getD k 0:=by
 rw[zO a k h,iJ m];have:a.getD k 0=a[k]:=by simp[m]
 simp only[Z8];rw[q' (by rw[<-this];exact b),this]
def RI(a:List Int)(h:∀j,j<a.length->a.getD j 0=0):Z8 a=0:=by rw[zO a a.length h];simp[Z8]
def zP(a:List Int)(b:Nat)(w:World)(I:a.length<=100)(E:∀j,j<a.length->w.cell? ⟨b,j,none⟩=some (.int .i64 (a.getD j 0))):Calls prog 29 #[.slice (some b) a.length a.length] w fun e c=>e=.returned (Z8 a)/\w=c:=by
 have u:=i' E;clear E;go_enter func29,ntmps29;go_wp2;go_loop [7] (fun i=>∃k:Nat,k<=a.length/\i=.int .i64 k/\Hid (∀j,j<k->a.getD j 0=0))(fun i=>a.length-(intOf i).toNat);case atStart=>exact⟨0,e6 _,rfl,fun j F=>Qa⟩
 case round=>
  obtain⟨k,H,rfl,D⟩:=hrel;by_cases p:k<a.length
  .have y:=u.out k p;obtain⟨v,z⟩:=Qu (a.getD k 0);rw[z]at y;have h:=i' z;clear z;by_cases m:v=0
   .have G : (v != 0) = false := by simp [m]
    have q:=i' m;clear m;go_wp2;go_round;case rel=>exact⟨k+1,Qa,Qj,fun j F=>by
     by_cases e:j=k;·subst e;rw[h.out];exact q.out
     .exact D.out j Qa⟩
    case measure=>simp[intOf];omega
   .have G : (v != 0) = true := by simp [m]
    go_wp2;go_ret;exact⟨aU (by rw[RH a k p D.out (by rw[h.out];exact m)];exact h.out.symm),rfl⟩
  .go_wp2;go_ret;exact⟨aU (RI a (fun j F=>D.out j Qa)).symm,rfl⟩
def hY(a b:Int)(w:World):Calls prog 29 #[.slice (some w.heap.size) 2 2] (w.alloc (.cells #[a,b] 29)) fun e c=>e=.returned (Z8 [a,b])/\w.alloc (.cells #[a,b] 29)=c:=zP [a,b] w.heap.size _ Qd (fun j h=>by rw[pL _ _ _ _ rfl];match j,h with|0,_=>rfl|1,_=>rfl)
def z'(a b c d:Int)(w:World):Calls prog 29 #[.slice (some w.heap.size) 4 4] (w.alloc (.cells #[a,b,c,d] 29)) fun e f=>e=.returned (Z8 [a,b,c,d])/\w.alloc (.cells #[a,b,c,d] 29)=f:=zP [a,b,c,d] w.heap.size _ Qd (fun j h=>by rw[pL _ _ _ _ rfl];match j,h with|0,_=>rfl|1,_=>rfl|2,_=>rfl|3,_=>rfl)
end Go.Proofs
namespace Go.Proofs
open Go.RowKit
def At{α:Type} (sz:Nat)(cs:α->List Value)(w:World)(A:Option Addr)(l:List α):Prop:=∀k x,l[k]?=some x->∃b o,A=some ⟨b,o,none⟩/\b<w.heap.size/\∀j v,(cs x)[j]?=some v->w.cell? ⟨b,o+k*sz+j,none⟩=some v
def At.below{α:Type} {sz:Nat} {cs:α->List Value} {w w':World} {A:Option Addr} {l:List α} (h:At sz cs w A l)(hb:QB w w'):At sz cs w' A l:=by intro k x z;obtain⟨b,o,q,m,u⟩:=h k x z;exact⟨b,o,q,h8 m hb.size,fun j v y=>(hb.cell (p:=⟨b,o+k*sz+j,none⟩) m).trans (u j v y)⟩
def eqS(a b:ByteArray):Bool:=a.toList==b.toList
variable {b:Nat} {o:Obj} {w:World} {cs:Array Value} {t:TypeId} {f:Nat×Nat} {v0 v1 v2 v3 v4:Value}
def Zx{W j:World} (hb:QB W j)(h:W.heap[b]?=some o):j.heap[b]?=some o:=(hb.block b (cG h)).trans h
def Zz(h:w.heap[b]?=some o)(d:Obj):(w.alloc d).heap[b]?=some o:=(pM w d b (cG h)).trans h
def ZD(h:w.heap[b]?=some o):w.drew.heap[b]?=some o:=h
def ZA(w:World)(o:Obj) {n:Nat} (h:n=w.heap.size):(w.alloc o).heap[n]?=some o:=by subst h;exact Sp w o
def ZC(h:w.heap[b]?=some o) {p:Addr} (hne:b≠p.block)(u:Value):(w.setCell p u).heap[b]?=some o:=(A6 w p u b hne).trans h
def iL(h:w.heap[b]?=some (.cells cs t f))(o:Nat):w.cell? ⟨b,o,none⟩=cs[o]?:=by simp[World.cell?,h]
def iM(h:w.heap[b]?=some (.cells cs t))(o:Nat):w.frozen? ⟨b,o,none⟩=false:=by simp[World.frozen?,h]
def ZG{o:Nat} {j:Array Value} (h:w.heap[b]?=some (.cells cs t f))(u:Value)(q:cs.setIfInBounds o u=j):(w.setCell ⟨b,o,none⟩ u).heap[b]?=some (.cells j t f):=by
 subst q;have m:=cG h;have p:w.heap[b]=.cells cs t f:=by simpa [y1 m] using h
 show (w.heap.modify b _)[b]?=_;rw[y1 (by simpa using m),Array.getElem_modify_self,p];rfl
def ZE(h:w.heap[b]?=some o):b<w.heap.size:=cG h
def bk1(h:w.heap[b]?=some (.cells #[v0] t)):w.cell? b=some v0/\w.frozen? ⟨b,0,none⟩=false/\b<w.heap.size:=⟨iL h 0,iM h 0,ZE h⟩
def bk2(h:w.heap[b]?=some (.cells #[v0,v1] t)):w.cell? b=some v0/\w.cell? ⟨b,1,none⟩=some v1/\w.frozen? ⟨b,0,none⟩=false/\w.frozen? ⟨b,1,none⟩=false/\b<w.heap.size:=⟨iL h 0,iL h 1,iM h 0,iM h 1,ZE h⟩
def bk3(h:w.heap[b]?=some (.cells #[v0,v1,v2] t)):w.cell? b=some v0/\w.cell? ⟨b,1,none⟩=some v1/\w.cell? ⟨b,2,none⟩=some v2/\w.frozen? ⟨b,0,none⟩=false/\w.frozen? ⟨b,1,none⟩=false/\w.frozen? ⟨b,2,none⟩=false/\b<w.heap.size:=⟨iL h 0,iL h 1,iL h 2,iM h 0,iM h 1,iM h 2,ZE h⟩
def bk5(h:w.heap[b]?=some (.cells #[v0,v1,v2,v3,v4] t)):w.cell? b=some v0/\w.cell? ⟨b,1,none⟩=some v1/\w.cell? ⟨b,2,none⟩=some v2/\w.cell? ⟨b,3,none⟩=some v3/\w.cell? ⟨b,4,none⟩=some v4/\w.frozen? ⟨b,0,none⟩=false/\w.frozen? ⟨b,1,none⟩=false/\w.frozen? ⟨b,2,none⟩=false/\w.frozen? ⟨b,3,none⟩=false/\w.frozen? ⟨b,4,none⟩=false/\b<w.heap.size:=⟨iL h 0,iL h 1,iL h 2,iL h 3,iL h 4,iM h 0,iM h 1,iM h 2,iM h 3,iM h 4,ZE h⟩
def bk7{j m:Value} (h:w.heap[b]?=some (.cells #[v0,v1,v2,v3,v4,j,m] t)):w.cell? b=some v0/\w.cell? ⟨b,1,none⟩=some v1/\w.cell? ⟨b,2,none⟩=some v2/\w.cell? ⟨b,3,none⟩=some v3/\w.cell? ⟨b,4,none⟩=some v4/\w.cell? ⟨b,5,none⟩=some j/\w.cell? ⟨b,6,none⟩=some m/\w.frozen? ⟨b,0,none⟩=false/\w.frozen? ⟨b,1,none⟩=false/\w.frozen? ⟨b,2,none⟩=false/\w.frozen? ⟨b,3,none⟩=false/\w.frozen? ⟨b,4,none⟩=false/\w.frozen? ⟨b,5,none⟩=false/\w.frozen? ⟨b,6,none⟩=false/\b<w.heap.size:=⟨iL h 0,iL h 1,iL h 2,iL h 3,iL h 4,iL h 5,iL h 6,iM h 0,iM h 1,iM h 2,iM h 3,iM h 4,iM h 5,iM h 6,ZE h⟩
def e9{P:Program} {c:Code} {Q:Exit->Act->World->Prop} {a:Act} {w:World} (h:∀W,W=w->c.wp P Q a W):c.wp P Q a w:=h w rfl
variable {T:TypeId} {W:World} {B k:Nat} {l:List Int}
def D9(l:List Int):Array Value:=(l.map (Value.int .i64)).toArray
def ZK(T:TypeId)(W:World)(B:Nat)(l:List Int):Prop:=W.heap[B]?=some (.cells (D9 l) T)
def zQ(l:List Int):(D9 l).size=l.length:=by simp[D9]
def V2(l:List Int)(k:Nat):(D9 l)[k]?=l[k]?.map (Value.int .i64):=by simp[D9]
def jF(l:List Int)(k:Nat)(x:Int):(D9 l).setIfInBounds k (.int .i64 x)=D9 (l.set k x):=by
 apply cC;intro j;rw[V2,bF,aT];simp only[zQ,V2];by_cases h:k=j
 .subst h;by_cases m:k<l.length;·simp[m]
  .simp[m]
 .simp[h]
def ZK.load(h:ZK T W B l) {x:Int} (m:l[k]?=some x):W.cell? ⟨B,k,none⟩=some (.int .i64 x):=by unfold ZK at h;unfold World.cell?;rw[h];simp[V2,m]
def ZK.loadD(h:ZK T W B l)(j:k<l.length):W.cell? ⟨B,k,none⟩=some (.int .i64 (l.getD k 0)):=by rw[h6,h' j];exact h.load (h' j)
def ZK.frozen(h:ZK T W B l)(k:Nat):W.frozen? ⟨B,k,none⟩=false:=by unfold ZK at h;unfold World.frozen?;rw[h];simp
def ZK.size(h:ZK T W B l):B<W.heap.size:=(bP.1 h).1
def ZK.store(h:ZK T W B l)(k:Nat)(x:Int):ZK T (W.setCell ⟨B,k,none⟩ (.int .i64 x)) B (l.set k x):=by have j:=h.size;unfold ZK at h |-;simp only[World.setCell];rw[jA,Zc9 rfl,h];simp[jF]
def ZK.other(h:ZK T W B l)(p:Addr)(v:Value)(hp:p.block≠B):ZK T (W.setCell p v) B l:=by unfold ZK at h |-;rw[<-h];exact A6 W p v B (fun e=>hp e.symm)
def ZK.alloc(h:ZK T W B l)(o:Obj):ZK T (W.alloc o) B l:=by have:=h.size;unfold ZK at h |-;exact(pM W o B this).trans h
def ZK.below{j:World} (h:ZK T W B l)(hb:QB W j):ZK T j B l:=by have:=h.size;unfold ZK at h |-;exact(hb.block B this).trans h
def ZK.new(W:World)(l:List Int):ZK T (W.alloc (.cells (D9 l) T)) W.heap.size l:=ZA W _ rfl
def RJ(n:Nat):madeCells #[.int .i64 0] n=D9 (List.replicate n 0):=by
 apply cC;intro j;rw[V2];by_cases h:j<n;·simp[madeCells,h,Nat.mod_one]
 .simp[madeCells,h]
end Go.Proofs
namespace Go.Proofs
def cmb:Nat->Nat->Nat->List (List Nat)|_,_,0=>[[]]|_,0,_+1=>[]|a,len+1,k+1=>(cmb (a+1) len k).map (a::·)++cmb (a+1) len (k+1)
def kT:Nat->List Nat->Option (List Nat)|_,[]=>none|m,x::t=>match kT (m+1) t with|some t'=>some (x::t')|none=>if x=m then none else some (List.range' (x+1) (t.length+1))
def FI:∀(a j k:Nat),j<k->cmb a j k=[]|_,_,0,h=>by omega|_,0,_+1,_=>rfl|a,j+1,k+1,h=>by simp only[cmb];rw[FI (a+1) j k Qa,FI (a+1) j (k+1) Qa];rfl
def vA:∀(a j k:Nat),k<=j->(cmb a j k)[0]?=some (List.range' a k)|_,_,0,_=>by simp[cmb]|_,0,k+1,h=>by omega|a,j+1,k+1,h=>by have:=vA (a+1) j k Qa;simp only[cmb];rw[aL (by rw[B3];exact(M0.1 this).1),k2,this];rfl
def hZ:∀(a j k:Nat),∀l∈cmb a j k,l.length=k
 |_,_,0,l,h=>by simp[cmb]at h;simp[h]|_,0,k+1,l,h=>by cases h|a,j+1,k+1,l,h=>by
  simp only[cmb,s0,b3]at h;rcases h with⟨t,m,rfl⟩|h;·rw[L',hZ (a+1) j k t m]
  .exact hZ (a+1) j (k+1) l h
def F':∀(a j k m:Nat),m+k=a+j->∀i l,(cmb a j k)[i]?=some l->kT m l=(cmb a j k)[i+1]?
 |a,j,0,m,_,i,l,h=>by simp only[cmb]at h |-;cases i with|zero=>simp at h;subst h;rfl|succ i=>simp at h
 |_,0,k+1,m,_,i,l,h=>by simp[cmb]at h|a,j+1,k+1,m,hm,i,l,h=>by
  have u:=hZ (a+1) j k;simp only[cmb]at h |-;by_cases b:i<(cmb (a+1) j k).length;·rw[aL (by rw[B3];exact b),k2]at h;obtain⟨t,E,rfl⟩:=n2.1 h;have G:=F' (a+1) j k (m+1) Qa i t E;have z:t.length=k:=u t (e7 E);unfold kT;rw[G];cases y:(cmb (a+1) j k)[i+1]? with
   |some t'=>rw[aL (by rw[B3];exact(M0.1 y).1),k2,y];rfl|none=>
    have q:=iG.1 y;rw[hS (by rw[B3];exact q),B3,show i+1-(cmb (a+1) j k).length=0 by omega];by_cases p:a=m;·rw[Zc9 p,FI (a+1) j (k+1) Qa];rfl
    .have F:k+1<=j:=by
      rcases gA j k with D|D;·rw[FI (a+1) j k D]at b;cases b
      .omega
     rw[q' p,vA (a+1) j (k+1) F,z]
  .rw[hS (by rw[B3];omega),B3]at h;rw[hS (by rw[B3];omega),B3,show i+1-(cmb (a+1) j k).length=(i-(cmb (a+1) j k).length)+1 by omega];exact F' (a+1) j (k+1) m Qa _ l h
def Asc(a b:Nat):List Nat->Prop|[]=>True|x::t=>a<=x/\x<b/\Asc (x+1) b t
def Asc.mono{b:Nat}:∀{l:List Nat} {a a':Nat},a'<=a->Asc a b l->Asc a' b l|[],_,_,_,_=>trivial|_::_,_,_,h,hl=>⟨l3 h hl.1,hl.2⟩
def Asc.lt{b:Nat}:∀{l:List Nat} {a:Nat},Asc a b l->∀x∈l,a<=x/\x<b
 |[],_,_,_,h=>by cases h|y::t,a,hl,x,h=>by
  rcases ZAW.1 h with rfl|h;·exact⟨hl.1,hl.2.1⟩
  .have:=Asc.lt hl.2.2 x h;have:=hl.1;exact⟨Qa,Qa⟩
def A7:∀(a j k:Nat),∀l∈cmb a j k,Asc a (a+j) l
 |_,_,0,l,h=>by simp[cmb]at h;subst h;trivial|_,0,k+1,l,h=>by cases h|a,j+1,k+1,l,h=>by
  simp only[cmb,s0,b3]at h;rcases h with⟨t,m,rfl⟩|h;·have:=A7 (a+1) j k t m;rw[show a+1+j=a+(j+1)by omega]at this;exact⟨r3 _,Qa,this⟩
  .have:=A7 (a+1) j (k+1) l h;rw[show a+1+j=a+(j+1)by omega]at this;exact this.mono Qa
def lH:∀(a j:Nat)(l:List Nat),Asc a (a+j) l->l∈cmb a j l.length
 |a,j,[],_=>by cases j<;>simp[cmb]|a,0,x::t,h=>by have:=h.1;have:=h.2.1;omega|a,j+1,x::t,h=>by
  rw[L'];simp only[cmb,s0,b3];by_cases m:x=a;·subst m;exact .inl ⟨t,lH (x+1) j t (by have:=h.2.2;rwa [show x+(j+1)=x+1+j by omega]at this),rfl⟩
  .right;have:=lH (a+1) j (x::t) ⟨by have:=h.1;omega,by have:=h.2.1;omega,by have:=h.2.2;rwa [show a+(j+1)=a+1+j by omega]at this⟩;rwa [L']at this
def vB:∀(m:Nat)(l:List Nat),(∀i x,l[i]?=some x->x=m+i)->kT m l=none|_,[],_=>rfl|m,x::t,h=>by unfold kT;rw[vB (m+1) t (fun i y j=>by have:=h (i+1) y j;omega)];exact Zc9 (h 0 x rfl)
def H5:∀(m:Nat)(l:List Nat) (j x:Nat),l[j]?=some x->x≠m+j->(∀i y,j<i->l[i]?=some y->y=m+i)->kT m l=some (l.take j++List.range' (x+1) (l.length-j))|_,[],j,x,h,_,_=>by simp at h|m,y::t,0,x,h,hx,hl=>by simp at h;subst h;unfold kT;rw[vB (m+1) t (fun i z p=>by have:=hl (i+1) z Qa p;omega)];simp only;rw[q' (by simpa using hx)];simp|m,y::t,j+1,x,h,hx,hl=>by unfold kT;rw[H5 (m+1) t j x (by simpa using h) Qa (fun i z a p=>by have:=hl (i+1) z Qa (by simpa using p);omega)];simp
def pop:Nat->Nat->Nat|0,_=>0|k+1,s=>pop k s+(s>>>k)%2
def dY(f:Nat->Nat->Int)(M:List Int)(a set:Nat):Nat->Int->Int->Int|0,acc,_=>acc|c+1,acc,sg=>if (set>>>c)%2=0 then dY f M a set c acc sg else dY f M a set c (if M.getD (set-2^c) 0=0 then acc else acc+sg*f a c*M.getD (set-2^c) 0) (-sg)
def eJ(f:Nat->Nat->Int)(n:Nat)(M:List Int)(set:Nat):Int:=dY f M (pop n set-1) set n 0 1
def dpM(f:Nat->Nat->Int)(n:Nat):Nat->List Int|0=>[1]|s+1=>dpM f n s++[eJ f n (dpM f n s) (s+1)]
def Z2(f:Nat->Nat->Int)(n:Nat):Int:=(dpM f n (2^n-1)).getD (2^n-1) 0
def gH(f:Nat->Nat->Int)(n:Nat):∀s,(dpM f n s).length=s+1|0=>rfl|s+1=>by simp[dpM,gH f n s]
def RL(m a x:Int):(if m=0 then a else a+x*m)=a+x*m:=by
 split;·rename_i h;rw[h];omega
 .rfl
def minorD(f:Nat->Nat->Int)(M:List Int)(a set:Nat):Nat->Int->Int->Int|0,acc,_=>acc|c+1,acc,sg=>if (set>>>c)%2=0 then minorD f M a set c acc sg else minorD f M a set c (acc+sg*f a c*M.getD (set-2^c) 0) (-sg)
def GA(f:Nat->Nat->Int)(M:List Int)(a set:Nat):∀c b h,dY f M a set c b h=minorD f M a set c b h|0,_,_=>rfl|c+1,b,h=>by unfold dY minorD;rw[GA f M a set c,GA f M a set c,RL]
def dpN(f:Nat->Nat->Int)(n:Nat):Nat->List Int|0=>[1]|s+1=>dpN f n s++[minorD f (dpN f n s) (pop n (s+1)-1) (s+1) n 0 1]
def iV(f:Nat->Nat->Int)(n:Nat):∀s,dpM f n s=dpN f n s|0=>rfl|s+1=>by unfold dpM dpN eJ;rw[iV f n s,GA]
def d2(f:Nat->Nat->Int)(i j:Nat):Int:=f 0 i*f 1 j-f 0 j*f 1 i
def d3(f:Nat->Nat->Int)(i j k:Nat):Int:=f 2 k*d2 f i j-f 2 j*d2 f i k+f 2 i*d2 f j k
def d4(f:Nat->Nat->Int)(i j k l:Nat):Int:=f 3 l*d3 f i j k-f 3 k*d3 f i j l+f 3 j*d3 f i k l-f 3 i*d3 f j k l
def d5(f:Nat->Nat->Int)(i j k l m:Nat):Int:=f 4 m*d4 f i j k l-f 4 l*d4 f i j k m+f 4 k*d4 f i j l m-f 4 j*d4 f i k l m+f 4 i*d4 f j k l m
def detP1(f:Nat->Nat->Int):Z2 f 1=f 0 0:=by simp[Z2,iV,dpN,minorD,pop]
def detP2(f:Nat->Nat->Int):Z2 f 2=d2 f 0 1:=by simp[Z2,iV,dpN,minorD,pop,d2];grind
def detP3(f:Nat->Nat->Int):Z2 f 3=d3 f 0 1 2:=by simp[Z2,iV,dpN,minorD,pop,d3,d2];grind
def detP4(f:Nat->Nat->Int):Z2 f 4=d4 f 0 1 2 3:=by simp[Z2,iV,dpN,minorD,pop,d4,d3,d2];grind
def detP5(f:Nat->Nat->Int):Z2 f 5=d5 f 0 1 2 3 4:=by simp[Z2,iV,dpN,minorD,pop,d5,d4,d3,d2];grind
def repl(f:Nat->Nat->Int)(b:Nat->Int)(c:Nat)(i j:Nat):Int:=if j=c then b i else f i j
def zR(f:Nat->Nat->Int)(b:Nat->Int):f 0 0*Z2 (repl f b 0) 1=b 0*Z2 f 1:=by simp[detP1,repl];grind
def zS(f:Nat->Nat->Int)(b:Nat->Int)(i:Nat)(a:i<2):f i 0*Z2 (repl f b 0) 2+f i 1*Z2 (repl f b 1) 2=b i*Z2 f 2:=by simp[detP2,repl,d2];rcases i with _|_|i<;>first|grind|omega
def zT(f:Nat->Nat->Int)(b:Nat->Int)(i:Nat)(a:i<3):f i 0*Z2 (repl f b 0) 3+f i 1*Z2 (repl f b 1) 3+f i 2*Z2 (repl f b 2) 3=b i*Z2 f 3:=by simp[detP3,repl,d3,d2];rcases i with _|_|_|i<;>first|grind|omega
def zU(f:Nat->Nat->Int)(b:Nat->Int)(i:Nat)(a:i<4):f i 0*Z2 (repl f b 0) 4+f i 1*Z2 (repl f b 1) 4+f i 2*Z2 (repl f b 2) 4+f i 3*Z2 (repl f b 3) 4=b i*Z2 f 4:=by simp[detP4,repl,d4,d3,d2];rcases i with _|_|_|_|i<;>first|grind|omega
def zV(f:Nat->Nat->Int)(b:Nat->Int)(i:Nat)(a:i<5):f i 0*Z2 (repl f b 0) 5+f i 1*Z2 (repl f b 1) 5+f i 2*Z2 (repl f b 2) 5+f i 3*Z2 (repl f b 3) 5+f i 4*Z2 (repl f b 4) 5=b i*Z2 f 5:=by simp[detP5,repl,d5,d4,d3,d2];rcases i with _|_|_|_|_|i<;>first|grind|omega
abbrev Ex:=List Int×Int
def entR(r:List (List Int))(i j:Nat):Int:=(r.getD i []).getD j 0
def colF(r:List (List Int))(h:Option Nat)(i c:Nat):Int:=entR r i (if h=some c then r.length else c)
def ZQ(r:List (List Int))(h:Option Nat):Int:=Z2 (colF r h) r.length
def x5(d:Int):Int:=if d<0 then -1 else 1
def r1(r:List (List Int)):Option (List Int×Int):=if ZQ r none=0 then none else some ((List.range r.length).map fun i=>x5 (ZQ r none)*ZQ r (some i),x5 (ZQ r none)*ZQ r none)
def dotL:List Int->List Int->Int|a::x,b::y=>a*b+dotL x y|_,_=>0
def putsL:List Ex->List Int->Nat->Int|x::es,w::W,k=>w*x.1.getD k 0+putsL es W k|_,_,_=>0
def spentL:List Ex->List Int->Int|x::es,w::W=>w*x.2+spentL es W|_,_=>0
def gcdL(g:Nat):List Int->Nat|[]=>g|n::l=>gcdL (Nat.gcd g n.natAbs) l
def zerosL(np:Nat)(l:List Nat):List Nat:=l.filter (·<np)
def tightL(np:Nat)(l:List Nat):List Nat:=(l.filter (np<=·)).map (· - np)
def hU(n i:Nat):List Int:=(List.range n).map fun j=>if j=i then 1 else 0
def hV(e:Nat)(d:List Ex)(z t:List Nat):List (List Int):=List.replicate (e+1) 1::(z.map (fun i=>hU (e+1) i)++t.map fun i=>(d.getD i default).1++[(d.getD i default).2])
def hH(np:Nat)(d:List Ex)(z t:List Nat):Option (List Int×Int):=match r1 (hV np d z t)with|none=>none|some (l,den)=>if l.any (·<0)then none else if d.any (fun x=>!decide (dotL x.1 l<=x.2*den))then none else some (l.map (· / (gcdL 0 (den::l):Int)),den / (gcdL 0 (den::l):Int))
def proofRow(es:List Ex)(t:List Nat)(k:Nat)(w:Int):List Int:=1::(t.map (fun i=>-((es.getD i default).1.getD k 0))++[w])
def proofRows(es:List Ex)(z t:List Nat):Nat->List Int->List (List Int)|_,[]=>[]|k,w::ws=>if k∈z then proofRows es z t (k+1) ws else proofRow es t k w::proofRows es z t (k+1) ws
def putW(l:List Int):Nat->List Nat->List Int->List Int|_,[],W=>W|k,i::t,W=>putW l (k+1) t (W.set i (l.getD (k+1) 0))
def W9(es:List Ex)(d h:Int)(W:List Int):Nat->List Int->Bool|_,[]=>true|k,w::ws=>decide (h<=w*d+putsL es W k)&&W9 es d h W (k+1) ws
structure Prf where
 den:Int
 lev:Int
 W:List Int deriving Inhabited
def gI(es:List Ex)(d:List Int)(z t:List Nat):Option Prf:=match r1 (proofRows es z t 0 d)with|none=>none|some (l,den)=>if (List.range t.length).any (fun k=>l.getD (k+1) 0<0)then none else let W:=putW l 0 t (List.replicate es.length 0);if W9 es den (l.getD 0 0) W 0 d then let g:Int:=(gcdL 0 (den::l.getD 0 0::W):Int);some {den:=den / g,lev:=l.getD 0 0 / g,W:=W.map (· / g)} else none
def z7(np:Nat)(a:List Ex)(b:List Int)(l:List Nat):Option (List Int×Int×Prf):=match gI a b (zerosL np l) (tightL np l)with|none=>none|some p=>match hH np a (zerosL np l) (tightL np l)with|none=>none|some (m,d)=>some (m,d,p)
def solvedL(np:Nat) (es:List Ex) (ws:List Int):Option (List Int×Int×Prf):=(cmb 0 (np+es.length) (np-1)).findSome? (z7 np es ws)
def RM(f:Nat->Nat->Int)(b:Nat->Int)(n:Nat)(h:n<=5)(i:Nat)(a:i<n):((List.range n).map fun c=>f i c*Z2 (repl f b c) n).sum=b i*Z2 f n:=by
 rcases n with _|_|_|_|_|_|n;·omega
 .obtain rfl:i=0:=Qa
  simpa using zR f b
 .simpa [cM] using zS f b i a
 .simpa [cM,F6] using zT f b i a
 .simpa [cM,F6] using zU f b i a
 .simpa [cM,F6] using zV f b i a
 .omega
def RN(r:List (List Int)) (c:Nat):colF r (some c)=repl (colF r none) (fun i=>entR r i r.length) c:=by
 funext i j;unfold colF repl;by_cases h:j=c;·subst h;simp
 .have:¬(c=j):=fun e=>h e.symm;simp[this,h]
def H7(a:List Int)(g:Nat->Int):∀(n:Nat)(a:List Int)(g:Nat->Int),n<=a.length->dotL a ((List.range n).map g)=((List.range n).map fun c=>a.getD c 0*g c).sum|0,a,g,_=>by cases a<;>simp[dotL]|n+1,[],g,h=>by simp at h|n+1,x::a,g,h=>by rw[pN];simp only[w6,dJ,dotL,aF,e3];have:=H7 a g n a (g ∘ Nat.succ) (by simpa using h);rw[show g ∘ Nat.succ=g ∘ Nat.succ from rfl]at this;rw[this];rfl
def jG{r:List (List Int)} {l:List Int} {d:Int} (h:r1 r=some (l,d))(y:r.length<=5)(z:∀b∈r,b.length=r.length+1):0<d/\l.length=r.length/\∀b∈r,dotL b l=b.getD r.length 0*d:=by
 unfold r1 at h;split at h;·cases h
 rename_i D;obtain⟨rfl,rfl⟩:_/\_:=by simpa using h
 refine⟨?_,Qd,fun b j=>?_⟩;·unfold x5;split<;>omega
 .obtain⟨i,e,rfl⟩:=eU j;have m:=RM (colF r none) (fun i=>entR r i r.length) r.length y i e;rw[H7 [] (fun _=>0) _ _ _ (by rw[z _ j];omega)];have p:∀c,(colF r none i c)=r[i].getD c 0:=fun c=>by simp[colF,entR,h6,h' e]
  have q:entR r i r.length=r[i].getD r.length 0:=by simp[entR,h6,h' e]
  have u:∀c,Z2 (repl (colF r none) (fun i=>entR r i r.length) c) r.length=ZQ r (some c):=fun c=>by unfold ZQ;rw[RN]
  simp only[p,q,u]at m;have:((List.range r.length).map fun c=>r[i].getD c 0*(x5 (ZQ r none)*ZQ r (some c))).sum=x5 (ZQ r none)*((List.range r.length).map fun c=>r[i].getD c 0*ZQ r (some c)).sum:=by generalize List.range r.length=L;induction L with
   |nil=>simp|cons x L ih=>simp only[w6,aF,ih];grind
  rw[this,m];show x5 _*(_*ZQ r none)=_;grind
open Tryz
open Go.RowKit
variable {w:World} {A:Option Addr}
def Zc(x:Int):List Value:=[.int .i64 x]
structure IR where
 A:Option Addr
 c:Nat
 l:List Int
def IR.cs(x:IR):List Value:=[.slice x.A x.l.length x.c]
def h3(w:World)(A:Option Addr)(a:List IR):Prop:=At 1 IR.cs w A a/\∀x∈a,At 1 Zc w x.A x.l
def h3.below{w':World} {d:List IR} (h:h3 w A d)(hb:QB w w'):h3 w' A d:=⟨h.1.below hb,fun x j=>(h.2 x j).below hb⟩
def B0(r:List (List Int))(q:Int)(i c:Nat):Int:=entR r i (if (c:Int)=q then r.length else c)
def h3.cell{f:List IR} (h:h3 w A f) {i j:Nat} {x:IR} (d:f[i]?=some x)(q:j<x.l.length):∃b o m o2,A=some ⟨b,o,none⟩/\x.A=some ⟨m,o2,none⟩/\w.cell? ⟨b,o+i,none⟩=some (.slice (some ⟨m,o2,none⟩) x.l.length x.c)/\w.cell? ⟨m,o2+j,none⟩=some (.int .i64 (x.l.getD j 0))/\entR (f.map IR.l) i j=x.l.getD j 0:=by
 obtain⟨b,o,u,-,y⟩:=h.1 i x d;obtain⟨m,o2,hA2,-,p⟩:=h.2 x (e7 d) j _ (h' q);refine⟨b,o,m,o2,u,hA2,?_,?_,?_⟩;·have:=y 0 _ rfl;rw[hA2]at this;simpa using this
 .have:=p 0 _ rfl;rw[h6,h' q];simpa using this
 .simp[entR,h6,d]
def RO(A:Option Addr)(d:List IR)(c n:Nat)(q:Int)(K N R a h:Nat)(w:World)(G:w.heap[K]?=some (.cells #[q] 3))(g:w.heap[N]?=some (.cells #[n] 3))(i:w.heap[R]?=some (.cells #[.slice A n c] 116))(m:h3 w A d)(I:d.length=n)(H:∀x∈d,x.l.length=n+1)(S:a<n)(O:h<n):Calls prog 102 #[a,h,.pointer (some K),.pointer (some N),.pointer (some R)] w fun e r=>e=.returned (B0 (d.map IR.l) q a h)/\w=r:=by
 obtain⟨x,E⟩:∃x,d[a]?=some x:=⟨_,h' Qa⟩;have u:=H x (e7 E);have p:(d.map IR.l).length=n:=by simpa using I
 have Y:=bk1 G;have Z:=bk1 g;have t:=bk1 i;have X:(a:Int)<(n:Int):=Qa
 by_cases y:(h:Int)=q
 .obtain⟨b,o,U,o2,rfl,hA2,F,V,z⟩:=m.cell E (j:=n) Qa;have D:B0 (d.map IR.l) q a h=x.l.getD n 0:=by unfold B0;rw[Zc9 y,p,z]
  rw[D];rw[u]at F;have L:((h:Int)==q)=true:=by simp[y]
  have J:(n:Int)<((n+1:Nat):Int):=Qa
  generalize x.l.getD n 0=v at*;clear y D z E u H I m p G g i hA2;go_enter func102,ntmps102;go_wp2;go_ret;exact⟨rfl,rfl⟩
 .obtain⟨b,o,U,o2,rfl,hA2,F,V,z⟩:=m.cell E (j:=h) Qa;have D:B0 (d.map IR.l) q a h=x.l.getD h 0:=by unfold B0;rw[q' y,z]
  rw[D];rw[u]at F;have L:((h:Int)==q)=false:=by simp[y]
  have J:(h:Int)<((n+1:Nat):Int):=Qa
  generalize x.l.getD h 0=v at*;clear y D z E u H I m p G g i hA2;go_enter func102,ntmps102;go_wp2;go_ret;exact⟨rfl,rfl⟩
end Go.Proofs
namespace Go.Proofs
variable {l:List Int}
def wsum:List Int->(Nat->Int)->Int|[],_=>0|x::m,f=>x*f 0+wsum m fun k=>f (k+1)
def RQ(m:List Int)(c:Int):wsum m (fun _=>c)=c*m.sum:=by induction m with|nil=>simp[wsum]|cons x m ih=>simp only[wsum,aF];rw[ih];grind
def RS(m:List Int):wsum m (fun _=>0)=0:=by rw[RQ];simp
def RU{m:List Int} {f g:Nat->Int} (h:∀k x,m[k]?=some x->x≠0->f k=g k):wsum m f=wsum m g:=by induction m generalizing f g with
 |nil=>rfl|cons x m ih=>
  simp only[wsum];rw[ih (f:=fun k=>f (k+1)) (g:=fun k=>g (k+1)) fun k y p=>h (k+1) y (by simpa using p)];by_cases j:x=0;·rw[j];simp
  .rw[h 0 x rfl j]
def H8:∀(a m:List Int),m.length<=a.length->dotL a m=wsum m fun k=>a.getD k 0|[],[],_=>rfl|_::_,[],_=>by simp[dotL,wsum]|[],_::_,h=>by simp at h|a::ar,x::m,h=>by simp only[dotL,wsum,e3,hR];rw[H8 ar m (by simpa using h)];grind
def zW(a b m:List Int)(h:m.length=a.length):dotL (a++b) m=dotL a m:=by induction a generalizing m with|nil=>have:m=[]:=Q0 (by simpa using h);subst this;cases b<;>simp[dotL]|cons x a ih=>cases m with|nil=>simp at h|cons y m=>simp only[M3,dotL];rw[ih m (by simpa using h)]
def GB(g:Int):∀(a m:List Int),dotL a (m.map (g*·))=g*dotL a m|[],_=>by simp[dotL]|_::_,[]=>by simp[dotL]|a::ar,x::m=>by simp only[w6,dotL];rw[GB g ar m];grind
def g'{a b:Int} {A B:Nat} (d:a.natAbs<=A)(hb:b.natAbs<=B):(a*b).natAbs<=A*B:=by rw[a6];exact hI d hb
def iB:∀(l:List Int)(g:Nat),gcdL g l∣g/\∀x∈l,(gcdL g l:Int)∣x
 |[],g=>⟨Nat.dvd_refl _,fun x h=>by cases h⟩|n::l,g=>by
  obtain⟨j,m⟩:=iB l (Nat.gcd g n.natAbs);simp only[gcdL];refine⟨Nat.dvd_trans j (Nat.gcd_dvd_left _ _),fun x h=>?_⟩;rcases ZAW.1 h with rfl|h;·exact Int.ofNat_dvd_left.2 (Nat.dvd_trans j (Nat.gcd_dvd_right _ _))
  .exact m x h
def oP{g:Nat} (x:Int)(f:x∈l)(d:x≠0):0<gcdL g l:=by
 rcases mS (gcdL g l)with h|h;·have:=(iB l g).2 x f;rw[h]at this;exact absurd (Int.zero_dvd.1 this) d
 .exact h
def RV{g:Int} (m:0<g)(h:∀x∈l,g∣x):(l.map (· / g)).map (g*·)=l:=by
 rw[dJ];conv=>rhs;rw[<-pO l]
 apply a7;intro x j;simp only[Function.comp_apply,id_eq];exact zK (h x j)
end Go.Proofs
namespace Go.Proofs
open Go.RowKit
variable {w:World} {A:Option Addr} {l:List Int}
structure Pa where
 nm:ByteArray
 a0:Int
 a1:Int
 c0:Int
 c1:Int
def Pa.cs(p:Pa):List Value:=[.string p.nm,.int .i64 p.a0,.int .i64 p.a1,.int .i64 p.c0,.int .i64 p.c1]
structure En where
 nm:ByteArray
 A:Option Addr
 c:Nat
 co:List Int
 mo:Int
def En.cs(x:En):List Value:=[.string x.nm,.slice x.A x.co.length x.c,.int .i64 x.mo]
def En.ex(x:En):Ex:=(x.co,x.mo)
def h7(w:World)(A:Option Addr)(es:List En):Prop:=At 3 En.cs w A es/\∀x∈es,At 1 Zc w x.A x.co
def h7.below{w':World} {es:List En} (h:h7 w A es)(hb:QB w w'):h7 w' A es:=⟨h.1.below hb,fun x j=>(h.2 x j).below hb⟩
def e'(h:At 1 Zc w A l) {k:Nat} (m:k<l.length):∃b o,A=some ⟨b,o,none⟩/\b<w.heap.size/\w.cell? ⟨b,o+k,none⟩=some (.int .i64 (l.getD k 0)):=by obtain⟨b,o,p,j,q⟩:=h k _ (h' m);refine⟨b,o,p,j,?_⟩;have:=q 0 _ rfl;rw[h6,h' m];simpa using this
def ZN(K:Nat)(l:List Int):Prop:=∀x∈l,x.natAbs<=K
def ZN.get{K:Nat} (h:ZN K l)(k:Nat):(l.getD k 0).natAbs<=K:=by rw[h6];cases j:l[k]? with|none=>exact e6 _|some x=>exact h x (e7 j)
def vC:∀(a b:List Int) (k:Nat),k<a.length->k<b.length->dotL (a.take (k+1)) (b.take (k+1))=dotL (a.take k) (b.take k)+a.getD k 0*b.getD k 0|[],_,_,h,_=>by simp at h|_::_,[],_,_,h=>by simp at h|x::a,y::b,0,_,_=>by cases a<;>cases b<;>simp[dotL]|x::a,y::b,k+1,h,h'=>by simp only[sT,dotL,hR];have:=vC a b k (by simpa using h) (by simpa using h');rw[this];omega
def vD{X Y:Nat}:∀(a b:List Int) (k:Nat),ZN X a->ZN Y b->(dotL (a.take k) (b.take k)).natAbs<=k*(X*Y)|[],b,k,_,_=>by simp[dotL]|_::_,[],k,_,_=>by simp[dotL]|_::_,_::_,0,_,_=>by simp[dotL]|x::a,y::b,k+1,ha,hb=>by simp only[sT,dotL];have j:=g' (ha x Qd) (hb y Qd);have m:=vD a b k (fun z h=>ha z (by simp[h])) fun z h=>hb z (by simp[h]);rw[w5];omega
def zX(a b:List Int) (h:a.length=b.length):dotL (a.take a.length) (b.take a.length)=dotL a b:=by rw[x1,h,x1]
def H9(c:Nat):∀(d:List Ex) (W:List Int) (k:Nat),k<d.length->k<W.length->putsL (d.take (k+1)) (W.take (k+1)) c=putsL (d.take k) (W.take k) c+W.getD k 0*(d.getD k default).1.getD c 0|[],_,_,h,_=>by simp at h|_::_,[],_,_,h=>by simp at h|x::a,y::b,0,_,_=>by cases a<;>cases b<;>simp[putsL]|x::a,y::b,k+1,h,h'=>by simp only[sT,putsL,hR];have:=H9 c a b k (by simpa using h) (by simpa using h');rw[this];omega
def nE{X Y:Nat} (c:Nat):∀(es:List Ex) (W:List Int) (k:Nat),(∀x∈es,ZN X x.1)->ZN Y W->(putsL (es.take k) (W.take k) c).natAbs<=k*(Y*X)|[],b,k,_,_=>by simp[putsL]|_::_,[],k,_,_=>by simp[putsL]|_::_,_::_,0,_,_=>by simp[putsL]|x::a,y::b,k+1,ha,hb=>by simp only[sT,putsL];have j:=g' (hb y Qd) ((ha x Qd).get c);have m:=nE c a b k (fun z h=>ha z (by simp[h])) fun z h=>hb z (by simp[h]);rw[w5];omega
def IA:∀(c:List Ex) (W:List Int) (k:Nat),k<c.length->k<W.length->spentL (c.take (k+1)) (W.take (k+1))=spentL (c.take k) (W.take k)+W.getD k 0*(c.getD k default).2|[],_,_,h,_=>by simp at h|_::_,[],_,_,h=>by simp at h|x::a,y::b,0,_,_=>by cases a<;>cases b<;>simp[spentL]|x::a,y::b,k+1,h,h'=>by simp only[sT,spentL,hR];have:=IA a b k (by simpa using h) (by simpa using h');rw[this];omega
def V7{X Y:Nat}:∀(c:List Ex) (W:List Int) (k:Nat),(∀x∈c,x.2.natAbs<=X)->ZN Y W->(spentL (c.take k) (W.take k)).natAbs<=k*(Y*X)|[],b,k,_,_=>by simp[spentL]|_::_,[],k,_,_=>by simp[spentL]|_::_,_::_,0,_,_=>by simp[spentL]|x::a,y::b,k+1,ha,hb=>by simp only[sT,spentL];have j:=g' (hb y Qd) (ha x Qd);have m:=V7 a b k (fun z h=>ha z (by simp[h])) fun z h=>hb z (by simp[h]);rw[w5];omega
end Go.Proofs
namespace Go.Proofs
open Tryz
open Go.RowKit
def F7{K x k n:Nat} (h:x<=k*K)(j:k<=n):x<=n*K:=l3 h (C2 _ j)
def _root_.Qv{P:Prop}(h:P:=by simp[intOf]<;>omega):P:=h
def pU(A B:Option Addr)(a b:List Int)(ca cb:Nat)(w:World)(C:At 1 Zc w A a)(hB:At 1 Zc w B b)(H:a.length=b.length)(o:a.length<=8)(X Y:Nat)(q:8*(X*Y)<=9000000000000000000)(d:ZN X a)(sb:ZN Y b):Calls prog 38 #[.slice A a.length ca,.slice B b.length cb] w fun e w'=>e=.returned (dotL a b)/\w=w':=by
 have h:=i' (zX a b H);have j:=i' fun k p=>vC a b k p (by rw[<-H];exact p);have u:=i' fun k=>vD (X:=X) (Y:=Y) a b k d sb;have f:=i' fun k (p:k<a.length)=>e' C p;have n:=i' fun k (p:k<a.length)=>e' (w:=w) hB (k:=k) (by rw[<-H];exact p);have ga:=i' d.get;have q:=i' q;have gb:=i' sb.get;obtain⟨N,U⟩:=Qu a.length;rw[U]at h j o f n |-;rw[<-H,U];clear C hB H U d sb;obtain⟨S,V⟩:∃S:Nat->Int,(fun k=>dotL (a.take k) (b.take k))=S:=⟨_,rfl⟩;have E:∀k,dotL (a.take k) (b.take k)=S k:=fun k=>by rw[<-V]
 have Z:S 0=0:=by rw[<-V];cases a<;>cases b<;>simp[dotL]
 simp only[E]at h j u;obtain⟨R,K⟩:=Qu (dotL a b);rw[K]at h |-;clear V E K;have aA:=h;go_enter func38,ntmps38;go_wp2;go_loopw [5,10] (fun s i wr=>∃k:Nat,k<=N/\i=.int .i64 k/\s=.int .i64 (S k)/\w=wr)(fun _ i _=>N-(intOf i).toNat);case atStart=>exact⟨0,e6 _,rfl,by rw[Z],rfl⟩
 case round=>
  obtain⟨k,p,rfl,rfl,rfl⟩:=hrel;by_cases m:k<N
  .have aB:(k:Int)<(N:Int):=Qa
   obtain⟨b1,o1,hA1,-,Q⟩:=f.out k m;obtain⟨b2,o2,O,-,W⟩:=n.out k m;subst hA1;subst O;have J:=j.out k m;have I:=g' (ga.out k) (gb.out k);have F:=F7 (u.out k) p;have G:=F7 (u.out (k+1)) m;obtain⟨x,M⟩:=Qu (a.getD k 0);obtain⟨y,P⟩:=Qu (b.getD k 0);rw[M]at Q J I;rw[P]at W J I;obtain⟨z,c⟩:=Qu (x*y);rw[c]at J I;have r:=C2 (X*Y) o;have D:=q.out;obtain⟨XY,L⟩:=Qu (X*Y);rw[L]at I F G r D;have aC:IntKind.i64.wrap (x*y)=z:=by rw[c];exact j0 _ Qa
   have aD:IntKind.i64.wrap (S k+z)=S (k+1):=by rw[<-J];exact j0 _ Qa
   clear c J I F G M P r D L;go_wp2;go_roundw;case rel=>exact⟨k+1,Qa,Qj,rfl,Qr⟩
   case measure=>exact Qv
  .obtain rfl:k=N:=Qa
   have e:S k=R:=h.out;clear m;go_wp2;go_ret;exact⟨aU e,rfl⟩
def RX(l:List Int):∀(k g:Nat),k<l.length->gcdL g (l.take (k+1))=Nat.gcd (gcdL g (l.take k)) (l.getD k 0).natAbs:=by induction l with|nil=>intro k g h;simp at h|cons x l ih=>intro k g h;cases k with|zero=>simp[gcdL]|succ k=>simp only[sT,gcdL,hR];exact ih k _ (by simpa using h)
def RY{g n:Int} (h:n≠0):Nat.gcd n.natAbs (g.tmod n).natAbs=Nat.gcd g.natAbs n.natAbs/\(g.tmod n).natAbs<n.natAbs:=by rw[Int.natAbs_tmod];refine⟨?_,Nat.mod_lt _ Qa⟩;rw[Nat.gcd_comm,<-Nat.gcd_rec,Nat.gcd_comm]
def pV(A:Option Addr)(l:List Int)(c:Nat)(w:World)(o:At 1 Zc w A l)(h8:l.length<=1000)(sl:ZN 1000000000000000000 l):Calls prog 63 #[.slice A l.length c] w (Qt w (gcdL 0 l:Nat)):=by
 have h:=i' fun k H=>RX l k 0 H;have f:=i' fun W' (hb:QB w W') k (H:k<l.length)=>e' (o.below hb) H;have ga:=i' sl.get;have m:Hid (gcdL 0 (l.take l.length)=gcdL 0 l):=by rw[x1];exact rfl
 obtain⟨N,r⟩:=Qu l.length;rw[r]at h h8 f m |-;obtain⟨S,I⟩:∃S:Nat->Nat,(fun k=>gcdL 0 (l.take k))=S:=⟨_,rfl⟩;have D:∀k,gcdL 0 (l.take k)=S k:=fun k=>by rw[<-I]
 have J:S 0=0:=by rw[<-I];simp[gcdL]
 simp only[D]at h m;obtain⟨R,B⟩:=Qu (gcdL 0 l);rw[B]at m |-;clear o r sl I D B;go_enter func63,ntmps63;go_wp2;go_loopw [3,8] (fun s i wr=>∃(k:Nat)(g:Int),k<=N/\i=.int .i64 k/\s=.int .i64 g/\Hid (g.natAbs=S k)/\Hid (g.natAbs<=1000000000000000000)/\QB w wr)(fun _ i _=>N-(intOf i).toNat);case atStart=>exact⟨0,0,e6 _,rfl,rfl,by show (0:Int).natAbs=_;rw[J];rfl,by show (0:Int).natAbs<=_;omega,Qi⟩
 case round=>
  obtain⟨k,d,H,rfl,rfl,E,u,p⟩:=hrel;by_cases z:k<N
  .have aB:(k:Int)<(N:Int):=Qa
   obtain⟨b1,o1,hA1,aD,a⟩:=f.out wr p k z;subst hA1;have K:=i' (h.out k z);have G:=i' (ga.out k);obtain⟨x,M⟩:=Qu (l.getD k 0);rw[M]at a K G;clear M;go_wp2;go_loopw [3,5] (fun s j wr=>∃g n:Int,s=.int .i64 g/\j=.int .i64 n/\Hid (Nat.gcd g.natAbs n.natAbs=S (k+1))/\Hid (g.natAbs<=1000000000000000000/\n.natAbs<=1000000000000000000)/\QB w wr)(fun _ j _=>(intOf j).natAbs);case atStart=>exact⟨d,x,rfl,rfl,by show Nat.gcd _ _=_;rw[K.out,E.out],⟨u.out,G.out⟩,by first|assumption|go_grown⟩
   case round=>
    clear p a;obtain⟨g,n,rfl,rfl,C,q,p⟩:=hrel;by_cases X:n=0
    .subst X;have y:=i' (show g.natAbs=S (k+1)from by have:=C.out;simpa using this);go_wp2;go_roundw;case rel=>exact⟨k+1,g,Qa,Qj,rfl,y.out,q.out.1,p⟩
     case measure=>exact Qv
    .have aC : (n != 0) = true := by simpa using X
     obtain⟨Q,s2⟩:=RY (g:=g) X;have y:=i' (Q.trans C.out);have F:=i' (show n.natAbs<=1000000000000000000/\(g.tmod n).natAbs<=1000000000000000000 from⟨q.out.2,by have:=q.out.2;omega⟩);have V:=i' s2;clear Q s2;go_wp2;refine c8 w Qb Qb Qi ?_;intro U O;repeat (go_big_quiet_step (fail))
     refine Zyh ?_;intro wb L Z Y;clear U O;go_wp2;go_roundw;case rel=>exact⟨n,g.tmod n,rfl,rfl,y.out,F.out,by first|assumption|go_grown⟩
     case measure=>have:=V.out;simp only[intOf];exact this
  .obtain rfl:k=N:=Qa
   have aA:d.natAbs=R:=E.out.trans m.out;have q:=u.out;clear z;go_wp2;all_goals go_ret
   all_goals exact⟨aU Qa,p⟩
def pcn:Nat->Nat->Nat|0,_=>0|f+1,n=>n%2+pcn f (n / 2)
def o1(x:Int):Int:=IntKind.u64.wrap (bits .and .u64 (x / 2) 6148914691236517205+bits .and .u64 x 6148914691236517205)
def o2(x:Int):Int:=IntKind.u64.wrap (bits .and .u64 (x / 4) 3689348814741910323+bits .and .u64 x 3689348814741910323)
def o3(x:Int):Int:=bits .and .u64 (IntKind.u64.wrap (x / 16+x)) 1085102592571150095
def o4(x:Int):Int:=IntKind.u64.wrap (x+x / 256)
def o5(x:Int):Int:=IntKind.u64.wrap (x+x / 65536)
def o6(x:Int):Int:=IntKind.u64.wrap (x+x / 4294967296)
def RZ(x:Int):Int:=bits .and .i64 (wrap64 (o6 (o5 (o4 (o3 (o2 (o1 x))))))) 127
def SA:∀n∈List.range 256,RZ (n:Int)=((pcn 8 n:Nat):Int):=Qm
def SB(n:Nat)(j:n<256)(w:World):Calls prog 113 #[.int .u64 n] w fun e a=>e=.returned (pcn 8 n)/\w=a:=by have h:=i' (SA n (y0.2 j));go_enter func113,ntmps113;go_wp2;go_ret;exact⟨aU h.out,rfl⟩
def SC(n:Nat)(h:n<256)(w:World):Calls prog 103 #[.int .u64 n] w fun e a=>e=.returned (pcn 8 n)/\w=a:=by go_enter func103,ntmps103;go_wp2_with (go_at_call 113;refine(SB n h _).mono ?_;rintro e a ⟨rfl,rfl⟩);go_ret;exact⟨rfl,rfl⟩
end Go.Proofs
namespace Go.Proofs
variable {l:List Int} {x:Int} {k:Nat}
def pW:∀n∈List.range 6,∀s∈List.range (2^n),∀c∈List.range n,(s>>>c)%2=1->pop n (s-2^c)+1=pop n s/\2^c<=s:=Qm
def o8:∀n∈List.range 6,∀s∈List.range (2^n),pop n s<=n:=Qm
def zY:∀n∈List.range 6,∀s∈List.range (2^n),s≠0->1<=pop n s:=Qm
def GC{f:Nat->Nat->Int} {M:List Int} {row set Z:Nat}:∀(c:Nat)(a m:Int),(m=1∨m=-1)->(∀j,j<c->(f row j).natAbs<=400)->(∀j,j<c->(set>>>j)%2=1->(M.getD (set-2^j) 0).natAbs<=Z)->(dY f M row set c a m).natAbs<=a.natAbs+c*(400*Z)
 |0,a,_,_,_,_=>by unfold dY;omega|c+1,a,m,hs,hf,hM=>by
  unfold dY;have u:(-m=1∨-m=-1):=Qa
  split;·have:=GC c a m hs (fun j q=>hf j Qa) fun j q=>hM j Qa;rw[w5];omega
  .rename_i E;have p:(set>>>c)%2=1:=Qa
   have z:=g' (hf c Qa) (hM c Qa p);have y:∀h,h.natAbs<=a.natAbs+400*Z->(dY f M row set c h (-m)).natAbs<=a.natAbs+(c+1)*(400*Z):=fun h D=>by have:=GC c h (-m) u (fun j q=>hf j Qa) fun j q=>hM j Qa;rw[w5];omega
   refine y _ ?_;split;·omega
   .rw[pP];rcases hs with rfl|rfl<;>omega
def zZ(h:k<l.length):(l++[x]).getD k 0=l.getD k 0:=by rw[h6,aL h,<-h6]
def pX(h:k=l.length):(l++[x]).getD k 0=x:=by subst h;simp[h6]
def N2(f:Nat->Nat->Int)(n:Nat):Prop:=∀i j,i<n->j<n->(f i j).natAbs<=400
def vE{f:Nat->Nat->Int} {n:Nat} (y:n<=5)(a:N2 f n):∀s,s<2^n->∀k,k<=s->((dpM f n s).getD k 0).natAbs<=2000^pop n k
 |0,_,k,hk=>by
  obtain rfl:k=0:=Qa
  simp only[dpM,e3];exact Nat.one_le_pow _ _ Qa|s+1,hs,k,hk=>by
  have z:=vE y a s Qa;have L:=gH f n s;unfold dpM;by_cases u:k<=s;·rw[zZ Qa];exact z k u
  .obtain rfl:k=s+1:=Qa
   rw[pX Qa];have h:n∈List.range 6:=y0.2 Qa;have m:s+1∈List.range (2^n):=y0.2 hs;have F:=zY n h _ m Qa;have G:=o8 n h _ m;unfold eJ;have:=GC (f:=f) (M:=dpM f n s) (row:=pop n (s+1)-1) (set:=s+1) (Z:=2000^(pop n (s+1)-1)) n 0 1 (.inl rfl) (fun j q=>a _ _ Qa q) fun j q D=>by obtain⟨H,I⟩:=pW n h _ m j (y0.2 q) D;have J:=n9 j;have:=z (s+1-2^j) Qa;rwa [show pop n (s+1-2^j)=pop n (s+1)-1 by omega]at this
   refine l3 this ?_;obtain⟨p,E⟩:∃p,pop n (s+1)=p+1:=⟨pop n (s+1)-1,Qa⟩;rw[E];simp only[e4,Int.natAbs_zero,w0,pQ];have:n*(400*2000^p)<=5*(400*2000^p):=C2 _ y;omega
def SD{f:Nat->Nat->Int} {n s j:Nat} (y:n<=5)(b:N2 f n)(c:s+1<2^n)(u:j<n)(a:((s+1)>>>j)%2=1):((dpM f n s).getD (s+1-2^j) 0).natAbs<=16000000000000/\2^j<=s+1/\pop n (s+1)-1<n:=by
 have h:n∈List.range 6:=y0.2 Qa;have m:s+1∈List.range (2^n):=y0.2 c;obtain⟨D,p⟩:=pW n h _ m j (y0.2 u) a;have z:=o8 n h _ m;have E:=n9 j;have:=vE y b s Qa (s+1-2^j) Qa;refine⟨l3 this ?_,p,Qa⟩;have q:pop n (s+1-2^j)<=4:=Qa
 exact l3 (jE Qa q) Qc
end Go.Proofs
namespace Go.Proofs
open Tryz
open Go.RowKit
variable {f:Nat->Nat->Int} {n s:Nat} {acc:Int}
def info3:(prog.info? 3).map (fun i=>(i.zero,i.size,i.bytes))=some (some (.int .i64 0),1,8):=Qb
def S2(n:Nat) (h:n<=100000) (W:World):(Instr.makeSlice 28 (.int .i64 n) (.int .i64 n)).run prog W=.ok (.slice (some W.heap.size) n n) (W.alloc (.cells (D9 (List.replicate n 0)) 3)):=by rw[<-RJ];exact run_make_row' 28 3 (.int .i64 0) 8 underlying28 info3 rfl .i64 .i64 n Qa Qa W
def SE:∀s∈List.range 32,∀c∈List.range 5,(s>>>c)%2=1->bits .andNot .i64 (s:Int) ((2^c:Nat):Int)=((s-2^c:Nat):Int):=Qm
def SF:∀s∈List.range 32,bits .and .i64 (s:Int) 1=((s%2:Nat):Int):=Qm
def eD(f:Nat->Nat->Int)(n s:Nat)(acc:Int):List Int:=dpM f n (s-1)++acc::List.replicate (2^n-1-s) 0
def SG{h:Int} (j:1<=s):(eD f n s acc).set s h=eD f n s h:=by unfold eD;rw[iA _ _ (by rw[gH];omega),gH,show s-(s-1+1)=0 by omega];rfl
def vF(h:1<=s):(eD f n s acc)[s]?=some acc:=by unfold eD;rw[hS (by rw[gH];omega),gH,show s-(s-1+1)=0 by omega];rfl
def SH{k:Nat} (h:1<=s)(j:k<s):(eD f n s acc)[k]?=some ((dpM f n (s-1)).getD k 0):=by unfold eD;have m:=gH f n (s-1);rw[aL Qa,h6,h' Qa];rfl
def SK(h:1<=s)(j:s+1<2^n):eD f n s (eJ f n (dpM f n (s-1)) s)=eD f n (s+1) 0:=by obtain⟨r,rfl⟩:∃r,s=r+1:=⟨s-1,Qa⟩;unfold eD;simp only[e4];rw[show dpM f n (r+1)=dpM f n r++[eJ f n (dpM f n r) (r+1)]from rfl,show 2^n-1-(r+1)=(2^n-1-(r+1+1))+1 by omega,l8];simp
def SL(h:1<=s)(j:s+1=2^n):(eD f n s (eJ f n (dpM f n (s-1)) s))[2^n-1]?=some (Z2 f n):=by obtain⟨r,rfl⟩:∃r,s=r+1:=⟨s-1,Qa⟩;rw[show 2^n-1=r+1 by omega,vF h];unfold Z2;rw[show 2^n-1=r+1 by omega,e4];show _=some ((dpM f n r++[eJ f n (dpM f n r) (r+1)]).getD (r+1) 0);rw[pX (by rw[gH])]
def SM(h:1<=n):(List.replicate (2^n) 0).set 0 1=eD f n 1 0:=by unfold eD;obtain⟨r,j⟩:∃r,2^n=r+2:=⟨2^n-2,by have:2^1<=2^n:=jE Qa h;omega⟩;rw[j,show r+2-1-1=r by omega];rfl
variable {f:Nat->Nat->Int} {M:List Int} {row s d K x n:Nat} {acc g:Int}
def SN:∀n∈List.range 6,∀s∈List.range (2^n),s≠0->(pcn 8 s-1)+1=pcn 8 s/\pop n s-1=pcn 8 s-1/\pcn 8 s-1<n/\IntKind.u64.wrap (s:Int)=(s:Int):=Qm
def SO:∀s∈List.range 32,∀c∈List.range 5,(s:Int) / 2^c=((s>>>c:Nat):Int):=Qm
def SQ(h:(s>>>d)%2=0):dY f M row s (d+1) acc g=dY f M row s d acc g:=by
 conv=>lhs;unfold dY
 rw[Zc9 h]
def SS{m:Int} (h:(s>>>d)%2=1) (a:M.getD (s-2^d) 0=m):dY f M row s (d+1) acc g=dY f M row s d (if m=0 then acc else acc+g*f row d*m) (-g):=by
 conv=>lhs;unfold dY
 rw[q' Qa,a]
def IB(h:x<=(n-(d+1))*K)(a:d+1<=n):x<=(n-d)*K:=l3 h (C2 _ Qa)
def SU{y:Nat} (h:x<=(n-(d+1))*K)(j:y<=x+K)(a:d+1<=n):y<=(n-d)*K:=by rw[show n-d=n-(d+1)+1 by omega,w5,pR];omega
def SV(h:x<=(n-d)*K)(j:n<=5):x<=5*K:=l3 h (C2 _ Qa)
def SW(A:Option Addr)(b:List IR)(o n:Nat)(q:Int)(w:World)(L:h3 w A b)(hn:b.length=n)(C:∀x∈b,x.l.length=n+1)(h1:1<=n)(h5:n<=5)(hf:N2 (B0 (b.map IR.l) q) n):Calls prog 85 #[.slice A n o,q] w (Qt w (Z2 (B0 (b.map IR.l) q) n)):=by
 obtain⟨f,aU⟩:=Qu (B0 (b.map IR.l) q);have aO:=i' fun(row aN:Nat)(h1:row<n)(h2:aN<n) W (F:QB w W)(e1:W.heap[w.heap.size]?=some (.cells #[.slice A n o] 116))(e2:W.heap[w.heap.size+1]?=some (.cells #[q] 3))(e3:W.heap[w.heap.size+2]?=some (.cells #[n] 3))=>RO A b o n q (w.heap.size+1) (w.heap.size+2) w.heap.size row aN W e2 e3 e1 (L.below F) hn C h1 h2;rw[aU]at aO hf |-;clear aU L C hn;obtain⟨P,hP⟩:=Qu (2^n);have bS:2<=P/\P<=32:=by rcases n with _|_|_|_|_|_|n<;>first|omega|(subst hP;decide)
 have bH:=i' (S2 P Qa);have H:=i' hP;have aS:=i' hf;have aZ:(D9 (List.replicate P 0))[0]?=some (.int .i64 0):=by rw[V2,c7,Zc9 Qa];rfl
 have bU:(2:Int)^n=(P:Int):=by rw[<-hP];simp
 clear hP hf;go_enter func85,ntmps85;have aW:=bH.out;go_wp2;clear aZ aW;go_loopw [8] (fun i wr=>∃s:Nat,1<=s/\s<=P/\i=.int .i64 s/\Hid ((wr.heap[w.heap.size]?=some (.cells #[.slice A n o] 116)/\wr.heap[w.heap.size+1]?=some (.cells #[q] 3)/\wr.heap[w.heap.size+2]?=some (.cells #[n] 3)/\ZK 3 wr (w.heap.size+3) (if s<P then eD f n s 0 else eD f n (s-1) (eJ f n (dpM f n (s-2)) (s-1)))/\QB w wr))) (fun i _=>P-(intOf i).toNat);case atStart=>
  refine⟨1,r3 _,Qa,rfl,?_,?_,?_,?_,?_⟩;·exact Qs
  .exact Qs
  .exact Qs
  .rw[Zc9 Qa,<-SM h1,H.out];have:=ZK.new (T:=3) (((w.alloc (.cells #[.slice A n o] 116)).alloc (.cells #[q] 3)).alloc (.cells #[n] 3)) ((List.replicate P 0).set 0 1);simp only[P3]at this;rw[jF];exact this
  .go_grown
 case round=>
  obtain⟨s,N,bW,rfl,z⟩:=hrel;obtain⟨m0,m1,m2,m3,y⟩:=z.out;clear z;have C2:=bk1 m2;by_cases X:s<P
  .have bV:(s:Int)<(P:Int):=Qa
   rw[Zc9 X]at m3;have E:s∈List.range 32:=y0.2 Qa;obtain⟨aD,aE,aF,aY⟩:=SN n (y0.2 Qa) s (y0.2 (by rw[H.out];exact X)) Qa;obtain⟨row,aC⟩:=Qu (pcn 8 s-1);rw[aC]at aD aE aF;have hO:=i' fun W=>SC s Qa W;rw[<-aD]at hO;have bL:=i' fun(d:Nat)(hd:d<n)(F:(s>>>d)%2=1)=>(by obtain⟨r,rfl⟩:∃r,s=r+1:=⟨s-1,Qa⟩;exact SD h5 aS.out (by rw[H.out];exact X) hd F:((dpM f n (s-1)).getD (s-2^d) 0).natAbs<=16000000000000/\2^d<=s/\pop n s-1<n);have J:=i' fun h=>SK (f:=f) (n:=n) (s:=s) N h;have aP:Hid (dY f (dpM f n (s-1)) row s n 0 1=eJ f n (dpM f n (s-1)) s):=by unfold eJ;rw[aE];exact rfl
   have aJ:=i' (SO s E);have aR:=i' (SE s E);obtain⟨V,hV⟩:=Qu (eJ f n (dpM f n (s-1)) s);rw[hV]at J aP;have bB:=i' hV;clear hV aC aD aE E;have E:=i' (show s<32 by omega);go_wp2_with (go_at_call 103;refine(hO.out _).mono ?_;rintro e w2 ⟨rfl,rfl⟩);clear hO aY;go_loopw [10,11] (fun sg j wr=>∃(c:Nat) (g acc:Int),c<=n/\j=.int .i64 ((c:Int)-1)/\sg=.int .i64 g/\(g=1∨g=-1)/\Hid (dY f (dpM f n (s-1)) row s c acc g=V)/\Hid (acc.natAbs<=(n-c)*6400000000000000)/\Hid ((wr.heap[w.heap.size]?=some (.cells #[.slice A n o] 116)/\wr.heap[w.heap.size+1]?=some (.cells #[q] 3)/\wr.heap[w.heap.size+2]?=some (.cells #[n] 3)/\ZK 3 wr (w.heap.size+3) (eD f n s acc)/\QB w wr))) (fun _ j _=>(intOf j+1).toNat);case atStart=>exact⟨n,1,0,r3 _,rfl,rfl,.inl rfl,aP.out,by show (0:Int).natAbs<=_;omega,m0,m1,m2,m3,y⟩
   case round=>
    clear m0 m1 m2 m3 y C2;obtain⟨c',g,acc,hc,rfl,rfl,hg,Z,G,z⟩:=hrel;obtain⟨m0,m1,m2,m3,y⟩:=z.out;clear z;have C2:=bk1 m2;rcases c' with _|d
    .have hj:((0:Nat):Int)-1=-1:=rfl;rw[hj];have aH:acc=V:=Z.out;subst aH;go_wp2;go_roundw;case rel=>
      refine⟨s+1,Qa,Qa,Qj,m0,m1,m2,?_,y⟩;by_cases C:s+1<P;·rw[Zc9 C,<-J.out (by rw[H.out];exact C)];exact m3
      .rw[q' C,show s+1-1=s by omega,show s+1-2=s-1 by omega,bB.out];exact m3
     case measure=>exact Qv
    .have hj:((d+1:Nat):Int)-1=(d:Int):=Qa
     rw[hj];obtain⟨t,a⟩:=Qu (s>>>d);have bK:(s:Int) / 2^d=(t:Int):=by rw[<-a];exact aJ.out d (y0.2 Qa)
     have O:t<32:=by
      have:s>>>d<=s:=by rw[zL];exact pS _ _
      have:=E.out;omega
     have R:bits .and .i64 (t:Int) 1=((t%2:Nat):Int):=SF t (y0.2 O);rcases zM t with F|F
     .rw[F]at R;simp only[tJ,tK,tL]at R;have p:=i' ((SQ (by rw[a];exact F)).symm.trans Z.out);clear F a O;go_wp2;go_roundw;case rel=>exact⟨d,g,acc,Qa,rfl,rfl,hg,p.out,IB G.out hc,m0,m1,m2,m3,y⟩
      case measure=>exact Qv
     .rw[F]at R;simp only[tJ,tK,tL]at R;obtain⟨z1,z2,z3⟩:=bL.out d Qa (by rw[a];exact F);obtain⟨m,Q⟩:=Qu ((dpM f n (s-1)).getD (s-2^d) 0);have p:=i' (Z.out.symm.trans (SS (by rw[a];exact F) Q));obtain⟨D,B⟩:=Qu (2^d);have bR:1<=D:=by rw[<-B];exact Nat.one_le_two_pow
      have bA:(2:Int)^d=(D:Int):=by rw[<-B];simp
      have bM:D<=32:=by rw[B]at z2;omega
      have bD:bits .andNot .i64 (s:Int) (D:Int)=((s-D:Nat):Int):=by rw[<-B];exact aR.out d (y0.2 Qa) (by rw[a];exact F)
      rw[Q]at z1;rw[B]at z2 Q;obtain⟨k,hk⟩:=Qu (s-D);rw[hk]at bD Q;have ck:wr.cell? ⟨w.heap.size+3,k,none⟩=some (.int .i64 m):=m3.load (by rw[SH N Qa,Q]);have bG:(k:Int)<(P:Int):=Qa
      have bO:(s:Int) / (D:Int)=(t:Int):=by rw[<-bA];exact bK
      clear F a O Q Z hk B;by_cases Y:m=0
      .subst Y;have I:=i' (show dY f (dpM f n (s-1)) row s d acc (-g)=V from by have:=p.out;rw[Zc9 rfl]at this;exact this.symm);clear p;have aK:-g=1∨-g=-1:=Qa
       go_wp2;go_roundw;case rel=>exact⟨d,-g,acc,Qa,rfl,rfl,aK,I.out,IB G.out hc,m0,m1,m2,m3,y⟩
       case measure=>exact Qv
      .have aK:-g=1∨-g=-1:=Qa
       have aT:=aS.out row d aF Qa;obtain⟨v,hv⟩:=Qu (f row d);rw[hv]at aT p;have hA:=i' fun W F e1 e2 e3=>aO.out row d aF Qa W F e1 e2 e3;rw[hv]at hA;obtain⟨g1,S⟩:=Qu (g*v);obtain⟨g3,U⟩:=Qu (g1*m);have aB:g1.natAbs<=400:=by rw[<-S];rcases hg with rfl|rfl<;>omega
       have aV:g3.natAbs<=6400000000000000:=by rw[<-U];exact l3 (g' aB z1) Qc
       have aQ:=SV G.out h5;obtain⟨a2,aG⟩:=Qu (acc+g3);have aA:a2.natAbs<=acc.natAbs+6400000000000000:=Qa
       have bY:IntKind.i64.wrap (g*v)=g1:=by rw[S];exact j0 _ Qa
       have bZ:IntKind.i64.wrap (g1*m)=g3:=by rw[U];exact j0 _ Qa
       have cA:IntKind.i64.wrap (acc+g3)=a2:=by rw[aG];exact j0 _ Qa
       have I:=i' (show dY f (dpM f n (s-1)) row s d a2 (-g)=V from by have:=p.out;rw[q' Y,S,U,aG]at this;exact this.symm);have aI:=i' (SU G.out aA hc);have cs:wr.cell? ⟨w.heap.size+3,s,none⟩=some (.int .i64 acc):=m3.load (vF N);have bT : (m != 0) = true := by simpa using Y
       clear p S U aG aB aV aQ aA Y aT z1 hv;have hA2:=i' fun(x:Grew wr)=>hA.out x.val (via y x.ok) (Zx x.ok m0) (Zx x.ok m1) (Zx x.ok m2);have bX:=m3.size;have bI:(row:Int)+1-1=(row:Int):=Qa
       clear hA;go_wp2;refine v8 w 14 Qb Qb Qi ?_;intro bF bE;simp only[sT,p',sA,B9];repeat (go_big_quiet_step ((go_at_call 102;with_reducible exact Zd (hA2.out _))))
       refine Zyh ?_;intro wb u aM bJ;clear bF bE;have n0:=Zx u m0;have n1:=Zx u m1;have n2:=Zx u m2;have n3:=m3.below u;have bP:=n3.load (vF N);have bQ:=n3.frozen s;clear m0 m1 m2 m3 C2 cs ck hA2;go_wp2;go_roundw;case rel=>have n4:=n3.store s a2;rw[SG N]at n4;exact⟨d,-g,a2,Qa,rfl,rfl,aK,I.out,aI.out,ZC n0 Qf _,ZC n1 Qf _,ZC n2 Qf _,n4,aM.setCell Qf _⟩
       case measure=>exact Qv
  .have aX:s=P:=Qa
   subst aX;rw[q' Qa]at m3;have aL:=m3.load (k:=s-1) (x:=Z2 f n) (by have:=SL (f:=f) (n:=n) (s:=s-1) Qa (by rw[H.out];omega);rw[H.out]at this;exact this);obtain⟨k,hk⟩:=Qu (s-1);rw[hk]at aL;have bG:(s:Int)-1=(k:Int):=Qa
   have bN:(k:Int)<(s:Int):=Qa
   clear X;go_wp2;go_ret;exact⟨rfl,y⟩
variable {es:List En} {np:Nat}
structure RightE (es:List En)(np:Nat):Prop where
 n8:es.length<=8
 co:∀x∈es,x.co.length=np/\ZN 20 x.co/\x.mo.natAbs<=20
def exs(es:List En):List Ex:=es.map En.ex
def x2{k:Nat} {x:En} (h:es[k]?=some x):(exs es).getD k default=(x.co,x.mo):=by simp[exs,h6,h,En.ex]
def RightE.exs_co(h:RightE es np):∀x∈exs es,ZN 20 x.1:=fun x j=>by obtain⟨y,m,rfl⟩:=b3.1 j;exact(h.co y m).2.1
def RightE.exs_mo(h:RightE es np):∀x∈exs es,x.2.natAbs<=20:=fun x j=>by obtain⟨y,m,rfl⟩:=b3.1 j;exact(h.co y m).2.2
def r2(es:List En):(exs es).length=es.length:=B3 ..
def pY(pA C wA:Option Addr)(pn pc ec wc np:Nat)(es:List En)(W:List Int)(r B:Int)(c:Nat)(w:World)(Q:RightE es np)(hE:h7 w C es)(hW:At 1 Zc w wA W)(hl:W.length=es.length)(hc:c<np)(sW:ZN 10000000000000000 W):Calls prog 59 #[.agg #[.slice pA pn pc,.slice C es.length ec],.agg #[r,B,.slice wA W.length wc],c] w (Qt w (putsL (exs es) W c)):=by
 have h8:=Q.n8;have j:=i' fun k y=>H9 c (exs es) W k (by rw[r2];exact y) (by rw[hl];exact y);have E:=i' fun k=>nE (X:=20) (Y:=10000000000000000) c (exs es) W k Q.exs_co sW;have m:=i' (show putsL ((exs es).take es.length) (W.take es.length) c=putsL (exs es) W c by rw[<-r2,x1,r2,<-hl,x1]);have gE:=i' fun q (hb:QB w q) k (y:k<es.length)=>(by
  obtain⟨b,o,hA,h,G⟩:=(hE.below hb).1 k _ (h' y);have hx:=D2 y;obtain⟨h1,h2,-⟩:=Q.co _ hx;obtain⟨D,o2,hA2,V,aE⟩:=e' ((hE.below hb).2 _ hx) (k:=c) Qa;refine⟨es[k],b,o,D,o2,hA,h,V,hA2,h1,?_,?_,?_,aE,h2.get c,x2 (h' y)⟩;·simpa using G 0 _ rfl
  .have:=G 1 _ rfl;rw[hA2]at this;exact this
  .exact G 2 _ rfl:∃x:En,∃b o D o2,C=some ⟨b,o,none⟩/\b<q.heap.size/\D<q.heap.size/\x.A=some ⟨D,o2,none⟩/\x.co.length=np/\q.cell? ⟨b,o+k*3,none⟩=some (.string x.nm)/\q.cell? ⟨b,o+k*3+1,none⟩=some (.slice (some ⟨D,o2,none⟩) x.co.length x.c)/\q.cell? ⟨b,o+k*3+2,none⟩=some (.int .i64 x.mo)/\q.cell? ⟨D,o2+c,none⟩=some (.int .i64 (x.co.getD c 0))/\(x.co.getD c 0).natAbs<=20/\(exs es).getD k default=(x.co,x.mo));have gW:=i' fun q (hb:QB w q) k (y:k<es.length)=>e' (hW.below hb) (k:=k) Qa;have sw:=i' sW.get;obtain⟨N,P⟩:=Qu es.length;rw[hl,P];rw[P]at j m gE gW h8;obtain⟨S,hS⟩:∃S:Nat->Int,(fun k=>putsL ((exs es).take k) (W.take k) c)=S:=⟨_,rfl⟩;have U:∀k,putsL ((exs es).take k) (W.take k) c=S k:=fun k=>by rw[<-hS]
 have aA:S 0=0:=by rw[<-hS];cases es<;>cases W<;>simp[putsL,exs]
 simp only[r2,P,U]at m j E;obtain⟨R,O⟩:=Qu (putsL (exs es) W c);rw[O]at m |-;clear hE hW hl sW hS U O Q P;go_enter func59,ntmps59;go_wp2;go_loopw [7,13] (fun s i wr=>∃k:Nat,k<=N/\i=.int .i64 k/\s=.int .i64 (S k)/\wr.heap[w.heap.size]?=some (.cells #[.slice pA pn pc,.slice C N ec] 25)/\wr.heap[w.heap.size+1]?=some (.cells #[r,B,.slice wA N wc] 41)/\QB w wr)(fun _ i _=>N-(intOf i).toNat);case atStart=>exact⟨0,e6 _,rfl,by rw[aA],Qs,Qs,Qi⟩
 case round=>
  obtain⟨k,y,rfl,rfl,m0,m1,F⟩:=hrel;have C0:=bk2 m0;have C1:=bk3 m1;by_cases h:k<N
  .have aI:(k:Int)<(N:Int):=Qa
   obtain⟨x,b,o,D,o2,hA1,aJ,aK,hA2,aG,c0,c1,c2,c3,Z,hg⟩:=gE.out wr F k h;obtain⟨b3,o3,hA3,aL,c4⟩:=gW.out wr F k h;subst hA1;subst hA3;have I:=j.out k h;rw[hg]at I;have hm:=g' (sw.out k) Z;have aB:=F7 (E.out k) y;have aC:=F7 (E.out (k+1)) h;have h9:=C2 (10000000000000000*20) h8;have aH:(c:Int)<(x.co.length:Int):=Qa
   obtain⟨u,hu⟩:=Qu (W.getD k 0);obtain⟨v,hv⟩:=Qu (x.co.getD c 0);rw[hu]at c4 I hm;dsimp only at I;rw[hv]at c3 I hm;obtain⟨z,hz⟩:=Qu (u*v);rw[hz]at I hm;have aM:IntKind.i64.wrap (u*v)=z:=by rw[hz];exact j0 _ Qa
   have aN:IntKind.i64.wrap (S k+z)=S (k+1):=by rw[<-I];exact j0 _ Qa
   generalize x.co.length=L at*;clear hz I hm aB aC hu hv h9 Z hg hA2 aG;go_wp2;refine c8 w Qb Qb Qi ?_;intro aF aD;repeat (go_big_quiet_step (fail))
   refine Zyh ?_;intro wb p J H;clear aF aD;simp only[P3]at H;have n0:=Zx p (Zz m0 _);have n1:=Zx p (Zz m1 _);clear m0 m1 C0 C1 c0 c1 c2 c3 c4;go_wp2;go_roundw;case rel=>exact⟨k+1,Qa,Qj,rfl,n0,n1,J⟩
   case measure=>exact Qv
  .obtain rfl:k=N:=Qa
   have e:S k=R:=m.out;clear h;go_wp2;go_ret;exact⟨aU e,F⟩
def AA(pA Z wA:Option Addr)(pn pc ec wc np:Nat)(es:List En)(W:List Int)(l B:Int)(w:World)(r:RightE es np)(hE:h7 w Z es)(hW:At 1 Zc w wA W)(P:W.length=es.length)(sW:ZN 10000000000000000 W):Calls prog 60 #[.agg #[.slice pA pn pc,.slice Z es.length ec],.agg #[l,B,.slice wA W.length wc]] w (Qt w (spentL (exs es) W)):=by
 have h8:=r.n8;have j:=i' fun k q=>IA (exs es) W k (by rw[r2];exact q) (by rw[P];exact q);have D:=i' fun k=>V7 (X:=20) (Y:=10000000000000000) (exs es) W k r.exs_mo sW;have m:=i' (show spentL ((exs es).take es.length) (W.take es.length)=spentL (exs es) W by rw[<-r2,x1,r2,<-P,x1]);have gE:=i' fun y (hb:QB w y) k (q:k<es.length)=>(by
  obtain⟨b,o,hA,h,F⟩:=(hE.below hb).1 k _ (h' q);have hx:=D2 q;obtain⟨h1,h2,-⟩:=r.co _ hx;have J:=(r.co _ hx).2.2;refine⟨es[k],b,o,hA,h,?_,?_,?_,J,x2 (h' q)⟩;·simpa using F 0 _ rfl
  .exact F 1 _ rfl
  .exact F 2 _ rfl:∃x:En,∃b o,Z=some ⟨b,o,none⟩/\b<y.heap.size/\y.cell? ⟨b,o+k*3,none⟩=some (.string x.nm)/\y.cell? ⟨b,o+k*3+1,none⟩=some (.slice x.A x.co.length x.c)/\y.cell? ⟨b,o+k*3+2,none⟩=some (.int .i64 x.mo)/\x.mo.natAbs<=20/\(exs es).getD k default=(x.co,x.mo));have gW:=i' fun y (hb:QB w y) k (q:k<es.length)=>e' (hW.below hb) (k:=k) Qa;have sw:=i' sW.get;obtain⟨N,C⟩:=Qu es.length;rw[P,C];rw[C]at j m gE gW h8;obtain⟨S,Q⟩:∃S:Nat->Int,(fun k=>spentL ((exs es).take k) (W.take k))=S:=⟨_,rfl⟩;have U:∀k,spentL ((exs es).take k) (W.take k)=S k:=fun k=>by rw[<-Q]
 have aA:S 0=0:=by rw[<-Q];cases es<;>cases W<;>simp[spentL,exs]
 simp only[r2,C,U]at m j D;obtain⟨R,O⟩:=Qu (spentL (exs es) W);rw[O]at m |-;clear hE hW P sW Q U O r C;go_enter func60,ntmps60;go_wp2;go_loopw [5,11] (fun s i wr=>∃k:Nat,k<=N/\i=.int .i64 k/\s=.int .i64 (S k)/\wr.heap[w.heap.size]?=some (.cells #[.slice pA pn pc,.slice Z N ec] 25)/\wr.heap[w.heap.size+1]?=some (.cells #[l,B,.slice wA N wc] 41)/\QB w wr)(fun _ i _=>N-(intOf i).toNat);case atStart=>exact⟨0,e6 _,rfl,by rw[aA],Qs,Qs,Qi⟩
 case round=>
  obtain⟨k,q,rfl,rfl,m0,m1,E⟩:=hrel;have C0:=bk2 m0;have C1:=bk3 m1;by_cases h:k<N
  .have aF:(k:Int)<(N:Int):=Qa
   obtain⟨x,b,o,hA1,aG,c0,c1,c2,V,hg⟩:=gE.out wr E k h;obtain⟨b3,o3,hA3,aH,c4⟩:=gW.out wr E k h;subst hA1;subst hA3;have H:=j.out k h;rw[hg]at H;have J:=g' (sw.out k) V;have aB:=F7 (D.out k) q;have aC:=F7 (D.out (k+1)) h;have h9:=C2 (10000000000000000*20) h8;obtain⟨u,hu⟩:=Qu (W.getD k 0);obtain⟨v,hv⟩:=Qu x.mo;rw[hu]at c4 H J;dsimp only at H;rw[hv]at c2 H J;obtain⟨z,hz⟩:=Qu (u*v);rw[hz]at H J;have aI:IntKind.i64.wrap (u*v)=z:=by rw[hz];exact j0 _ Qa
   have aJ:IntKind.i64.wrap (S k+z)=S (k+1):=by rw[<-H];exact j0 _ Qa
   generalize x.co.length=L at*;clear hz H J aB aC hu hv h9 V hg;go_wp2;refine c8 w Qb Qb Qi ?_;intro aE aD;repeat (go_big_quiet_step (fail))
   refine Zyh ?_;intro wb p I G;clear aE aD;simp only[P3]at G;have n0:=Zx p (Zz m0 _);have n1:=Zx p (Zz m1 _);clear m0 m1 C0 C1 c0 c1 c2 c4;go_wp2;go_roundw;case rel=>exact⟨k+1,Qa,Qj,rfl,n0,n1,I⟩
   case measure=>exact Qv
  .obtain rfl:k=N:=Qa
   have e:S k=R:=m.out;clear h;go_wp2;go_ret;exact⟨aU e,E⟩
end Go.Proofs
namespace Go.Proofs
open Go.RowKit
variable {w w':World} {base:Nat} {e:TypeId} {v:Value}
def SX(a:QB w w'):w.grownBy w' none:=⟨a.os,a.tape,a.output,a.size,fun k h _=>a.block k h⟩
def ZL{size:Nat} {n:Nat} {d:List Value} (h:w.ownsRow base e size v n d)(hb:QB w w'):w'.ownsRow base e size v n d:=h.kept (SX hb) (by cases v.ownBlock<;>simp)
def IC{α β:Type} (cs:α->List β)(b:Nat)(m:∀x,(cs x).length=b):∀(l:List α)(k j:Nat)(x:α)(v:β),l[k]?=some x->(cs x)[j]?=some v->(l.flatMap cs)[k*b+j]?=some v|[],k,j,x,v,h,_=>by simp at h|a::l,0,j,x,v,h,hv=>by simp only[S',nK]at h;subst h;rw[W2,gR,w0,aL (M0.1 hv).1];exact hv|a::l,k+1,j,x,v,h,hv=>by simp only[B4]at h;have p:=IC cs b m l k j x v h hv;rw[W2,hS (by rw[m];rw[U8];omega),m,show (k+1)*b+j-b=k*b+j by rw[U8];omega];exact p
def A9{α:Type} {cs:α->List Value} {sz:Nat} {l:List α} (p:∀x,(cs x).length=sz)(h:w.ownsRow base e sz v l.length (l.flatMap cs)):∃A m,v=.slice A l.length m/\At sz cs w A l:=by
 rcases h.2 with⟨rfl,J⟩|⟨g,m,E,rfl,N,I,L,F,G,R⟩;·have:l=[]:=Q0 J;subst this;exact⟨none,0,rfl,fun k x q=>by simp at q⟩
 .refine⟨some ⟨g,0,none⟩,m,rfl,fun k x q=>⟨g,0,rfl,(bP.1 I).1,fun j u D=>?_⟩⟩;have H:=IC cs sz p l k j x u q D;have O:j<sz:=by rw[<-p x];exact(M0.1 D).1
  have y:k<l.length:=(M0.1 q).1;have z:k*sz+j<l.length*sz:=by have:=C2 sz (Nat.succ_le_of_lt y);rw[U8]at this;omega
  rw[w0,h.cellAt _ z];exact H
variable {w w' x x':World} {base size n sz b c:Nat} {e:TypeId} {v:Value} {xs:List Value} {row:Option Nat} {A:Option Addr}
def ZV(h:w.ownsRow base e size v n xs):∃A c,v=.slice A n c:=by
 rcases h.2 with⟨rfl,rfl⟩|⟨g,j,m,p,-⟩;·exact⟨none,0,rfl⟩
 .exact⟨_,_,p⟩
def F2{j:Nat} (h:w.ownsRow j e size v n xs)(hb:base<=j):w.ownsRow base e size v n xs:=by
 refine⟨h.1,?_⟩;rcases h.2 with h|⟨g,m,p,q,u,y⟩;·exact .inl h
 .exact .inr ⟨g,m,p,q,l3 hb u,y⟩
def R'(h:w.ownsRow base e sz v n xs)(hb:∀g,v.ownBlock=some g->w'.heap[g]?=w.heap[g]?):w'.ownsRow base e sz v n xs:=by
 refine⟨h.1,?_⟩;rcases h.2 with h|⟨g,j,m,rfl,p,q,u⟩;·exact .inl h
 .exact .inr ⟨g,j,m,rfl,p,(hb g rfl).trans q,u⟩
def G0(h:w.ownsRow base e sz v n xs)(j:w.grownBy w' row)(hne:∀g,v.ownBlock=some g->some g≠row):w'.ownsRow base e sz v n xs:=R' h fun g e=>j.block g (h.lt g e).2 (hne g e)
def X1(h:w.ownsRow base e size v n xs)(hb:b<base):some b≠v.ownBlock:=by intro j;have:=(h.lt b j.symm).1;omega
def b5{o:Obj} (j:x.grownBy x' row)(h:x.heap[b]?=some o)(hne:some b≠row):x'.heap[b]?=some o:=(j.block b (cG h) hne).trans h
def ZX(h:QB w x)(j:x.grownBy x' row)(m:∀b,row=some b->w.heap.size<=b):QB w x':=h.grown j h.size m
def G1(w:World)(d:List Value)(t:TypeId)(m:n=w.heap.size):∀j u,d[j]?=some u->(w.alloc (.cells d.toArray t)).cell? (Addr.add ⟨n,0,none⟩ j)=some u:=by
 subst m;intro j u p;have h:=Sp w (.cells d.toArray t);have e:Addr.add ⟨w.heap.size,0,none⟩ j=⟨w.heap.size,j,none⟩:=by unfold Addr.add;split<;>simp_all
 rw[e];unfold World.cell?;simp only[h];simpa using p
def X0(h:w.ownsRow base e 1 (.slice A n c) n xs) {k:Nat} {u:Value} (d:xs[k]?=some u):∃g,A=some ⟨g,0,none⟩/\base<=g/\g<w.heap.size/\w.cell? ⟨g,k,none⟩=some u:=by
 rcases h.2 with⟨-,j⟩|⟨g,p,q,y,j,m,D,E,F,z⟩;·have:=h.1;rw[j,gR]at this;have:xs=[]:=Q0 this;subst this;simp at d
 .cases y;refine⟨g,rfl,j,(bP.1 m).1,?_⟩;unfold World.cell?;simp only[m];have G:=(M0.1 d).1;have:=h.1;rw[<-z,dN,Zc9 Qa,mN]at d;simpa using d
def A'{l:List Int} (h:w.ownsRow base e 1 (.slice A n c) n (l.map (Value.int .i64))):At 1 Zc w A l:=by intro k x z;obtain⟨g,y,D,p,q⟩:=X0 h (k:=k) (u:=.int .i64 x) (by rw[k2,z];rfl);refine⟨g,0,y,p,fun j v m=>?_⟩;cases j with|zero=>simp[Zc]at m;subst m;simpa using q|succ j=>simp[Zc]at m
def SY{P:Prop} (h:Hid P):P:=h.out
end Go.Proofs
namespace Go.Proofs
open Tryz
open Go.RowKit
variable {r:List (List Int)}
def qOf(h:Option Nat):Int:=match h with|none=>-1|some c=>(c:Int)
def pZ(r:List (List Int))(j:Option Nat):B0 r (qOf j)=colF r j:=by funext i c;unfold B0 colF;cases j with
 |none=>
  have:¬((c:Int)=qOf none):=by show ¬((c:Int)=-1);omega
  rw[q' this,q' Qd]|some d=>
  unfold qOf;by_cases h:d=c;·subst h;simp
  .have m:¬((c:Int)=(d:Int)):=Qa
   have p:¬(some d=some c):=by simpa using h
   rw[q' m,q' p]
def c9(r:List (List Int)):Prop:=∀a∈r,ZN 400 a
def c9.entR(h:c9 r)(i j:Nat):(entR r i j).natAbs<=400:=by unfold Go.Proofs.entR;rw[h6 (l:=r)];cases c:r[i]? with|none=>simp|some row=>exact(h row (e7 c)).get j
def c9.col(h:c9 r)(q:Int)(n:Nat):N2 (B0 r q) n:=fun i j _ _=>h.entR _ _
def SZ{f:Nat->Nat->Int} {n:Nat} (h:n<=5)(a:N2 f n):(Z2 f n).natAbs<=32000000000000000:=by unfold Z2;have j:=n9 n;have:=vE h a (2^n-1) Qa (2^n-1) (r3 _);refine l3 this ?_;have m:=o8 n (y0.2 Qa) (2^n-1) (y0.2 Qa);exact l3 (jE Qa (show pop n (2^n-1)<=5 by omega)) Qc
def L1(r:List (List Int))(h:Nat)(e:Ending)(d:World):Prop:=match r1 r with|none=>e=.returned (.tuple #[.slice none 0 0,(0:Int),false])|some (l,den)=>∃v,e=.returned (.tuple #[v,den,true])/\d.ownsRow h 3 1 v l.length (l.map (Value.int .i64))
def S1(A:Option Addr)(a:List IR)(m:Nat)(h:Option Nat)(w:World)(j:h3 w A a)(q:∀x∈a,x.l.length=a.length+1)(p:1<=a.length)(b:a.length<=5)(c:c9 (a.map IR.l)):Calls prog 85 #[.slice A a.length m,(qOf h)] w (Qt w (ZQ (a.map IR.l) h)):=by have:=SW A a m a.length (qOf h) w j rfl q p b (c.col _ _);rw[pZ]at this;unfold ZQ;rw[B3];exact this
def p6(A:Option Addr)(d:List IR)(cp:Nat)(w:World)(aB:h3 w A d)(hl:∀x∈d,x.l.length=d.length+1)(h1:1<=d.length)(h5:d.length<=5)(hs:c9 (d.map IR.l)):Calls prog 58 #[.slice A d.length cp] w fun e w'=>L1 (d.map IR.l) w.heap.size e w'/\QB w w':=by
  have M:=i' fun O W (f:QB w W)=>S1 A d cp O W (aB.below f) hl h1 h5 hs;have aF:=i' fun O=>(by have:=SZ h5 (hs.col (qOf O) d.length);rw[pZ]at this;unfold ZQ;rw[B3];exact this:(ZQ (d.map IR.l) O).natAbs<=32000000000000000);have J:(d.map IR.l).length=d.length:=B3 ..;obtain⟨N,hN⟩:=Qu d.length;obtain⟨r,hr⟩:=Qu (d.map IR.l);rw[hN]at M h5 h1 J |-;rw[hr]at M aF J |-;have aJ:=i' J;clear aB hl hs hN hr J;have aE:=i' fun W f=>M.out none W f;have aP:=aF.out none;obtain⟨y,aI⟩:=Qu (ZQ r none);rw[aI]at aE aP;have Z:=i' aI;by_cases hz:y=0
  . subst hz;go_enter func58,ntmps58;go_wp2_with (go_at_call 85;refine(aE.out _ (m' _ _)).mono ?_;rintro e w1 ⟨rfl,F⟩);refine e5 (v:=.tuple #[.slice none 0 0,(0:Int),false]) ?_ rfl ⟨?_,F⟩;· simp[results,results58,go_sem]
    . unfold L1 r1;rw[Zc9 Z.out]
  . have aS:(y==0)=false:=by simpa using hz
    have I:=i' (show r1 r=some ((List.range N).map fun i=>x5 y*ZQ r (some i),x5 y*y)from by unfold r1;rw[q' (by rw[Z.out];exact hz),Z.out,aJ.out]);obtain⟨i0,hi,aM,aN,aO⟩:=x0 info3;clear aI;by_cases aG:y<0
    . have C:x5 y=-1:=by unfold x5;rw[Zc9 aG]
      obtain⟨L,Q⟩:∃L:Nat->List Int,(fun k=>(List.range k).map fun i=>x5 y*ZQ r (some i))=L:=⟨_,rfl⟩;have j:∀k,((List.range k).map fun i=>x5 y*ZQ r (some i))=L k:=fun k=>by rw[<-Q]
      have S:∀k,L (k+1)=L k++[-1*ZQ r (some k)]:=fun k=>by rw[<-j,<-j,cM,C];simp
      have E:∀k,(L k).length=k:=fun k=>by rw[<-j];simp
      have aH:L 0=[]:=Q0 (E 0);have U:=i' S;have R:=i' E;rw[j]at I;have aR:IntKind.i64.wrap (-y)=-y:=j0 _ Qa;clear Q j S E;go_enter func58,ntmps58;go_wp2_with (go_at_call 85;refine(aE.out _ (m' _ _)).mono ?_;rintro e w1 ⟨rfl,F⟩);go_loopw [7,17] (fun v i wr=>∃k:Nat,k<=N/\i=.int .i64 k/\wr.ownsRow w.heap.size 3 1 v k ((L k).map (Value.int .i64))/\QB w wr)(fun _ i _=>N-(intOf i).toNat);case atStart=>exact⟨0,e6 _,rfl,by rw[aH];exact hG _ _ _ _,F⟩
      case round=>
        clear F;obtain⟨k,hk,rfl,m,G⟩:=hrel;obtain⟨o,K,rfl⟩:=ZV m;have p:=i' m;clear m;by_cases aK:k<N
        . have aQ:(k:Int)<(N:Int):=Qa
          have D:=i' fun W f=>M.out (some k) W f;have X:=aF.out (some k);have hq:Hid (qOf (some k)=(k:Int)):=rfl;have hs:=U.out k;obtain⟨x,hx⟩:=Qu (ZQ r (some k));rw[hx]at D X hs;rw[hq.out]at D;have aL:IntKind.i64.wrap (-x)=-x:=j0 _ Qa;have B:=i' (show L (k+1)=L k++[-x]from by rw[hs];simp);clear hx hs hq;go_wp2_with (first
            | (go_at_call 85;refine(D.out _ G).mono ?_;rintro e w2 ⟨rfl,V⟩;have z:=via G V;have h:=i' (ZL p.out V))|(at_builtin;refine C0 _ rfl _ _ 28 rfl w.heap.size 3 i0 (.int .i64 0) 1 8 underlying28 hi aM aN aO rfl Qc _ _ _ rfl (h.out.alloc _) ⟨w2.heap.size,0,none⟩ 1 1 [.int .i64 (-x)] rfl rfl ?c1 ?c2 ?c3 ?c4 ?c5 ?_));case c1=>exact G1 _ [.int .i64 (-x)] _ Qd
          case c2=>intro u hu;simp at hu;subst hu;rfl
          case c3=>unfold maxLen;omega
          case c4=>omega
          case c5=>have:=z.size;simp;omega
          intro v' w3 q s _;have Y:QB w w3:=ZX (via z (ZB _ _)) s fun b e=>(h.out.lt b e).1;have H:Hid (w3.ownsRow w.heap.size 3 1 v' (k+1) ((L (k+1)).map (Value.int .i64))):=i' (by rw[B.out,b4];exact q);clear q s h B X aL;go_wp2;go_roundw;case rel=>exact⟨k+1,Qa,Qj,H.out,Y⟩
          case measure=>exact Qv
        . obtain rfl:k=N:=Qa
          clear aK;go_wp2;refine e5 (v:=.tuple #[.slice o k K,.int .i64 (-y),true]) ?_ rfl ⟨?_,G⟩;· simp[results,results58,go_sem]
          . unfold L1;rw[I.out];exact⟨.slice o k K,by rw[C];simp,by rw[R.out];exact p.out⟩
    . have C:x5 y=1:=by unfold x5;rw[q' aG]
      obtain⟨L,Q⟩:∃L:Nat->List Int,(fun k=>(List.range k).map fun i=>x5 y*ZQ r (some i))=L:=⟨_,rfl⟩;have j:∀k,((List.range k).map fun i=>x5 y*ZQ r (some i))=L k:=fun k=>by rw[<-Q]
      have S:∀k,L (k+1)=L k++[1*ZQ r (some k)]:=fun k=>by rw[<-j,<-j,cM,C];simp
      have E:∀k,(L k).length=k:=fun k=>by rw[<-j];simp
      have aH:L 0=[]:=Q0 (E 0);have U:=i' S;have R:=i' E;rw[j]at I;have aR:IntKind.i64.wrap (y)=y:=j0 _ Qa;clear Q j S E;go_enter func58,ntmps58;go_wp2_with (go_at_call 85;refine(aE.out _ (m' _ _)).mono ?_;rintro e w1 ⟨rfl,F⟩);go_loopw [7,17] (fun v i wr=>∃k:Nat,k<=N/\i=.int .i64 k/\wr.ownsRow w.heap.size 3 1 v k ((L k).map (Value.int .i64))/\QB w wr)(fun _ i _=>N-(intOf i).toNat);case atStart=>exact⟨0,e6 _,rfl,by rw[aH];exact hG _ _ _ _,F⟩
      case round=>
        clear F;obtain⟨k,hk,rfl,m,G⟩:=hrel;obtain⟨o,K,rfl⟩:=ZV m;have p:=i' m;clear m;by_cases aK:k<N
        . have aQ:(k:Int)<(N:Int):=Qa
          have D:=i' fun W f=>M.out (some k) W f;have X:=aF.out (some k);have hq:Hid (qOf (some k)=(k:Int)):=rfl;have hs:=U.out k;obtain⟨x,hx⟩:=Qu (ZQ r (some k));rw[hx]at D X hs;rw[hq.out]at D;have aL:IntKind.i64.wrap (x)=x:=j0 _ Qa;have B:=i' (show L (k+1)=L k++[x]from by rw[hs];simp);clear hx hs hq;go_wp2_with (first
            | (go_at_call 85;refine(D.out _ G).mono ?_;rintro e w2 ⟨rfl,V⟩;have z:=via G V;have h:=i' (ZL p.out V))|(at_builtin;refine C0 _ rfl _ _ 28 rfl w.heap.size 3 i0 (.int .i64 0) 1 8 underlying28 hi aM aN aO rfl Qc _ _ _ rfl (h.out.alloc _) ⟨w2.heap.size,0,none⟩ 1 1 [.int .i64 (x)] rfl rfl ?c1 ?c2 ?c3 ?c4 ?c5 ?_));case c1=>exact G1 _ [.int .i64 (x)] _ Qd
          case c2=>intro u hu;simp at hu;subst hu;rfl
          case c3=>unfold maxLen;omega
          case c4=>omega
          case c5=>have:=z.size;simp;omega
          intro v' w3 q s _;have Y:QB w w3:=ZX (via z (ZB _ _)) s fun b e=>(h.out.lt b e).1;have H:Hid (w3.ownsRow w.heap.size 3 1 v' (k+1) ((L (k+1)).map (Value.int .i64))):=i' (by rw[B.out,b4];exact q);clear q s h B X aL;go_wp2;go_roundw;case rel=>exact⟨k+1,Qa,Qj,H.out,Y⟩
          case measure=>exact Qv
        . obtain rfl:k=N:=Qa
          clear aK;go_wp2;refine e5 (v:=.tuple #[.slice o k K,(y),true]) ?_ rfl ⟨?_,G⟩;· simp[results,results58,go_sem]
          . unfold L1;rw[I.out];exact⟨.slice o k K,by rw[C];simp,by rw[R.out];exact p.out⟩
end Go.Proofs
namespace Go.Proofs
variable {n k:Nat} {l W ws:List Int} {den lev x g:Int} {es:List Ex}
def sL:Nat->Nat|0=>1|n+1=>(n+1)*sL n
def GD{f:Nat->Nat->Int} {M:List Int} {row set Z:Nat}:∀(c:Nat)(a m:Int),(m=1∨m=-1)->(∀j,j<c->(f row j).natAbs<=400)->(∀j,j<c->(set>>>j)%2=1->(M.getD (set-2^j) 0).natAbs<=Z)->(dY f M row set c a m).natAbs<=a.natAbs+pop c set*(400*Z)
 |0,a,_,_,_,_=>by unfold dY;omega|c+1,a,m,hs,hf,hM=>by
  unfold dY pop;have u:(-m=1∨-m=-1):=Qa
  split;·rename_i y;have:=GD c a m hs (fun j q=>hf j Qa) fun j q=>hM j Qa;rw[y,sW];exact this
  .rename_i y;have p:(set>>>c)%2=1:=Qa
   have D:=g' (hf c Qa) (hM c Qa p);have z:∀h,h.natAbs<=a.natAbs+400*Z->(dY f M row set c h (-m)).natAbs<=a.natAbs+(pop c set+1)*(400*Z):=fun h E=>by have:=GD c h (-m) u (fun j q=>hf j Qa) fun j q=>hM j Qa;rw[w5];omega
   rw[p];refine z _ ?_;split;·omega
   .rw[pP];rcases hs with rfl|rfl<;>omega
def ID{f:Nat->Nat->Int} {n:Nat} (E:n<=5)(a:N2 f n):∀s,s<2^n->∀k,k<=s->((dpM f n s).getD k 0).natAbs<=sL (pop n k)*400^pop n k
 |0,_,k,hk=>by
  obtain rfl:k=0:=Qa
  have:∀m,pop m 0=0:=fun m=>by induction m with|zero=>rfl|succ m u=>unfold pop;rw[u];simp
  rw[this];simp[dpM,sL]|s+1,hs,k,hk=>by
  have u:=ID E a s Qa;have N:=gH f n s;unfold dpM;by_cases z:k<=s;·rw[zZ Qa];exact u k z
  .obtain rfl:k=s+1:=Qa
   rw[pX Qa];have h:n∈List.range 6:=y0.2 Qa;have q:s+1∈List.range (2^n):=y0.2 hs;have G:=zY n h _ q Qa;have H:=o8 n h _ q;unfold eJ;have:=GD (f:=f) (M:=dpM f n s) (row:=pop n (s+1)-1) (set:=s+1) (Z:=sL (pop n (s+1)-1)*400^(pop n (s+1)-1)) n 0 1 (.inl rfl) (fun j y=>a _ _ Qa y) fun j y D=>by obtain⟨I,J⟩:=pW n h _ q j (y0.2 y) D;have L:=n9 j;have:=u (s+1-2^j) Qa;rwa [show pop n (s+1-2^j)=pop n (s+1)-1 by omega]at this
   refine l3 this ?_;obtain⟨p,F⟩:∃p,pop n (s+1)=p+1:=⟨pop n (s+1)-1,Qa⟩;rw[F];simp only[e4,Int.natAbs_zero,w0,pQ,sL];refine sU ?_;ac_rfl
def S4{f:Nat->Nat->Int} (j:n<=5)(a:N2 f n):(Z2 f n).natAbs<=1228800000000000:=by
 unfold Z2;have m:=n9 n;have:=ID j a (2^n-1) Qa (2^n-1) (r3 _);refine l3 this ?_;have q:=o8 n (y0.2 Qa) (2^n-1) (y0.2 Qa);have h:pop n (2^n-1)<=5:=Qa
 generalize pop n (2^n-1)=p at h;have:∀p,p<=5->sL p*400^p<=1228800000000000:=Qc
 exact this p h
def jH{r:List (List Int)} (h:r1 r=some (l,den))(f:r.length<=5)(hs:c9 r):l.length=r.length/\den.natAbs<=1228800000000000/\0<den/\ZN 1228800000000000 l:=by
 have p:∀j,(ZQ r j).natAbs<=1228800000000000:=fun j=>by have:=S4 f (hs.col (qOf j) r.length);rw[pZ]at this;exact this
 have m:∀d x:Int,(x5 d*x).natAbs=x.natAbs:=fun d x=>by unfold x5;split<;>omega
 unfold r1 at h;split at h;·cases h
 rename_i u;obtain⟨rfl,rfl⟩:_/\_:=by simpa using h
 refine⟨Qd,by rw[m];exact p _,?_,fun x q=>?_⟩;·unfold x5;split<;>omega
 .obtain⟨i,-,rfl⟩:=b3.1 q;rw[m];exact p _
def ZK.at'{T:TypeId} {W:World} {B:Nat} (h:ZK T W B l):At 1 Zc W (some ⟨B,0,none⟩) l:=by intro k x p;refine⟨B,0,rfl,h.size,fun j v m=>?_⟩;cases j with|zero=>simp[Zc]at m;subst m;simpa using h.load p|succ j=>simp[Zc]at m
def vG{l:List Int} {K:Nat} (m:ZN K l):∀(t:List Nat)(k:Nat)(W:List Int),ZN K W->ZN K (putW l k t W)
 |[],_,_,h=>h|i::t,k,W,h=>by
  unfold putW;refine vG m t (k+1) _ fun x j=>?_;rcases pT j with j|rfl;·exact h x j
  .exact m.get _
def IE(l:List Int):∀(t:List Nat)(k:Nat)(W:List Int)(i:Nat),putW l k (t++[i]) W=(putW l k t W).set i (l.getD (k+t.length+1) 0)|[],k,W,i=>rfl|j::t,k,W,i=>by simp only[M3,putW,L'];rw[IE l t (k+1) _ i,show k+1+t.length+1=k+(t.length+1)+1 by omega]
def AB(l:List Int) {t:List Nat} {i:Nat} (h:t[k]?=some i):putW l 0 (t.take (k+1)) W=(putW l 0 (t.take k) W).set i (l.getD (k+1) 0):=by have j:k<t.length:=(M0.1 h).1;rw[r4,h];have:=IE l (t.take k) 0 W i;rwa [y5,U2 Qa,w0]at this
def AD(j:k<n)(h:l.getD (k+1) 0<0):(List.range n).any (fun k=>l.getD (k+1) 0<0)=true:=by rw[h0];exact⟨k,y0.2 j,by simpa using h⟩
def AE(h:∀k,k<n->¬(l.getD (k+1) 0<0)):(List.range n).any (fun k=>l.getD (k+1) 0<0)=false:=by rw[bM];intro k j;simpa using h k (y0.1 j)
def vH(es:List Ex)(den lev:Int)(W:List Int):∀(ws:List Int)(m:Nat),W9 es den lev W m ws=true↔∀j,j<ws.length->lev<=ws.getD j 0*den+putsL es W (m+j)
 |[],_=>by simp[W9]|w::ws,m=>by
  unfold W9;rw[aY,z1,vH es den lev W ws (m+1)];constructor;·rintro⟨q,u⟩ j p;cases j with|zero=>simpa using q|succ j=>have:=u j (by simpa using p);rwa [show m+1+j=m+(j+1)by omega]at this
  .intro h;refine⟨by simpa using h 0 Qd,fun j p=>?_⟩;have:=h (j+1) (by simpa using p);rwa [show m+(j+1)=m+1+j by omega]at this
def S5{j:Nat} (p:j<ws.length)(h:ws.getD j 0*den+putsL es W j<lev):W9 es den lev W 0 ws=false:=by rw[Bool.eq_false_iff];intro m;have:=(vH es den lev W ws 0).1 m j p;rw[w0]at this;omega
def S6(h:∀j,j<ws.length->¬(ws.getD j 0*den+putsL es W j<lev)):W9 es den lev W 0 ws=true:=(vH es den lev W ws 0).2 fun j m=>by have:=h j m;rw[w0];omega
def AF(b:0<g)(a:g∣x):x.tdiv g=x / g/\(x / g).natAbs<=x.natAbs:=by
 obtain⟨y,rfl⟩:=a;have h:g≠0:=Qa
 rw[Int.mul_tdiv_cancel_left _ h,Int.mul_ediv_cancel_left _ h];refine⟨rfl,?_⟩;rw[a6];exact Nat.le_mul_of_pos_left _ Qa
def kZ{K:Nat} (a:0<g)(d:g∣x)(f:x.natAbs<=K)(m:K<=9000000000000000000):IntKind.i64.wrap (x.tdiv g)=x / g:=by obtain⟨h,j⟩:=AF a d;rw[h];exact j0 _ Qa
def AG{w:World} {R base:Nat} (h:ZK 3 w R l)(j:l.length=n)(m:n<=1000)(hb:base<=R):w.ownsRow base 3 1 (.slice (some R) n n) n (l.map (Value.int .i64)):=by refine⟨by simpa using j,.inr ⟨R,n,_,rfl,hb,h,r3 _,Qq,by rw[zQ];omega,?_⟩⟩;simp only[D9,p1,A8,List.toList_toArray];rw[h9 Qk]
def AH(h:k<W.length):(((W.take k).map (· / g))++W.drop k).set k (W.getD k 0 / g)=(W.take (k+1)).map (· / g)++W.drop (k+1):=by have j:=h' h;rw[h6,j,r4,j,iJ h,iA _ _ Qk,b4,Ap];rw[show k-((W.take k).map (· / g)).length=0 from Qk];rfl
def AI(h:k<W.length):(((W.take k).map (· / g))++W.drop k)[k]?=some (W.getD k 0):=by rw[hS Qk];simp[U2 (Nat.le_of_lt h),h6,h]
end Go.Proofs
namespace Go.Proofs
open Tryz
open Go.RowKit
def AJ(s:ByteArray)(w:World)(b:s.size<=9223372036854775807):Calls prog 52 #[.string s] w fun e a=>e=.returned (c6 s.data.toList)/\w=a:=by
  have h:Hid (s.data.toList.length=s.size):=by simp[Hid]
  by_cases N:s.size<1
  . have J:(s.size:Int)<1:=Qa
    have y:c6 s.data.toList=false:=by unfold c6;rw[h.out];simp;omega
    rw[y];clear y h;go_enter func52,ntmps52;go_wp2;go_ret;exact⟨rfl,rfl⟩
  . have J:¬(s.size:Int)<1:=Qa
    by_cases O:12<s.size
    . have L:12<(s.size:Int):=Qa
      have y:c6 s.data.toList=false:=by unfold c6;rw[h.out];simp;omega
      rw[y];clear y h;go_enter func52,ntmps52;go_wp2;go_ret;exact⟨rfl,rfl⟩
    . have L:¬12<(s.size:Int):=Qa
      go_enter func52,ntmps52;go_wp2;go_loop [3] (fun i=>∃k:Nat,k<=s.size/\i=.int .i64 k/\Hid (∀j,j<k->bB j ((s.data.toList.getD j 0).toNat:Int)=true))(fun i=>s.size-(intOf i).toNat);case atStart=>exact⟨0,e6 _,rfl,fun j E=>Qa⟩
      case round=>
        obtain⟨k,R,rfl,u⟩:=hrel;by_cases p:k<s.size
        . obtain⟨c,I⟩:∃c:UInt8,s[k]'p=c:=⟨_,rfl⟩;have m:Hid (s.data.toList.getD k 0=c):=by unfold Hid;rw[<-I,h6,h' (by rw[h.out];exact p)];simp;rfl
          have H:(0:Int)<=(c.toNat:Int):=Qa
          by_cases z:k=0
          . have F:((k:Int)==0)=true:=by simp[z]
            have q:=i' z;clear z;go_wp2;all_goals first
              |(exfalso;have:=q.out;simp at*;omega)
              | (go_round;case rel=>exact⟨k+1,Qa,Qj,uW u m (uY _ _ (by have:=q.out;simp at*;omega))⟩
                 case measure=>simp[intOf];omega)|(go_ret;exact⟨gB (uX (k:=k) h p m (uZ _ _ (by have:=q.out;simp at*;omega))).symm,rfl⟩)
          . have F:((k:Int)==0)=false:=by simp[z]
            go_wp2;all_goals first
              |(exfalso;simp at*;omega)
              | (go_round;case rel=>exact⟨k+1,Qa,Qj,uW u m (uY _ _ (by simp at*;omega))⟩
                 case measure=>simp[intOf];omega)|(go_ret;exact⟨gB (uX (k:=k) h p m (uZ _ _ (by simp at*;omega))).symm,rfl⟩)
        . have G:k=s.size:=Qa
          subst G;have D:hQ s.data.toList=true:=zN _ (fun j E=>u.out j (by rw[h.out]at E;exact E));have y:c6 s.data.toList=true:=by unfold c6;rw[D,h.out];simp;omega
          go_wp2;go_ret;exact⟨rfl,rfl⟩
def eE(b a m:Int):Int:=Z8 [unl (hN b 0 m&&hN a 0 m) 2,unl (decide (b<=a)) 9]
end Go.Proofs
namespace Go.Proofs
open Go.RowKit
section
variable {P:Program} {ops:Array Oper}
def bL(ops:Array Oper):Bool:=(List.range ops.size).all fun i=>match ops[i]? with|none=>true|some o=>((o.looksAt ops).all fun s=>(List.range ops.size).all fun j=>match ops[j]? with|none=>true| some oj => oj.dst != some s || (decide (j < i) && o.after.any fun e => Region.binds .any e && e.on == j)) && ((List.range ops.size).all fun j=>match ops[j]? with|none=>true| some oj => j == i || o.dst.isNone || oj.dst != o.dst) && (o.after.all fun e=>!Region.binds .any e||decide (e.on<i))
structure SlotsOk (ops:Array Oper):Prop where
 look:∀(i:Nat)(o:Oper)(s j:Nat)(oj:Oper),ops[i]?=some o->s∈o.looksAt ops->ops[j]?=some oj->oj.dst=some s->j<i/\∃e∈o.after,Region.binds .any e=true/\e.on=j
 dst:∀(i j:Nat)(o oj:Oper)(s:Nat),ops[i]?=some o->ops[j]?=some oj->o.dst=some s->oj.dst=some s->j=i
 after:∀(i:Nat)(o:Oper)(e:Edge),ops[i]?=some o->e∈o.after->Region.binds .any e=true->e.on<i
def iP{i:Nat} {o:Oper} (h:ops[i]?=some o):i<ops.size:=(bP.1 h).1
def IF(h:bL ops=true):SlotsOk ops:=by
 unfold bL at h;simp only[bK,y0]at h;refine⟨fun i o s j H a G q y=>?_,fun i j o H s a q y z=>?_,fun i o e a D u=>?_⟩;·have m:=h i (iP a);simp only[a,aY,bK,y0]at m;have p:=m.1.1 s G j (iP q);simp only[q,y,dR,aY,z1,bne_self_eq_false,p0,false_or]at p;obtain⟨E,F⟩:=p;obtain⟨e,D,u⟩:=Array.any_eq_true'.1 F;simp only[aY,bJ]at u;exact⟨E,e,D,u⟩
 .have m:=h i (iP a);simp only[a,aY,bK,y0]at m;have p:=m.1.2 j (iP q);simpa [q,y,z] using p
 .have m:=h i (iP a);simp only[a,aY]at m;have p:=bW.1 m.2 e D;simpa [u] using p
def TA{a b:Act} (h:a.defers=b.defers)(j:∀s:Nat,a.tmps[s]?=b.tmps[s]?):a=b:=by obtain⟨t,d⟩:=a;obtain⟨m,p⟩:=b;dsimp only at h j;subst h;have:t=m:=cC j;subst this;rfl
def TB{a b:Act} {x:Operand} (h:∀t:Nat,x=.tmp t->a.tmps[t]?=b.tmps[t]?):a.eval x=b.eval x:=by cases x with|tmp t=>have:=h t rfl;simp[Act.eval,this]|_=>rfl
def AK{o:Oper} {a b:Act} (j:∀cs b,o.op≠.select cs b)(h:∀s∈o.looksAt ops,a.tmps[s]?=b.tmps[s]?):execOp a.eval o=execOp b.eval o:=execOp_congr o j fun x p=>TB fun t m=>h t (by subst m;exact sY _ (List.mem_filterMap.2 ⟨.tmp t,by simpa using p,rfl⟩))
def AL{o:Oper} {a b:Act} (h:∀s∈o.looksAt ops,a.tmps[s]?=b.tmps[s]?):Region.wanted o (yielded ops a.tmps)=Region.wanted o (yielded ops b.tmps):=by unfold Region.wanted;cases m:o.guard with
 |none=>rfl|some gw=>
  obtain⟨g,j⟩:=gw;have q:yielded ops a.tmps g=yielded ops b.tmps g:=by unfold yielded;cases p:(ops[g]?).bind (·.dst)with
   |none=>rfl|some t=>have:=h t (by simp[Oper.looksAt,m,p]);simp[this]
  simp only[q]
def AM{C:World->Prop} {o:Oper} {v:Value} {a b:Act} (j:∀cs b,o.op≠.select cs b)(h:∀s∈o.looksAt ops,a.tmps[s]?=b.tmps[s]?)(m:YieldsIn P ops C o v a):YieldsIn P ops C o v b:=m.of_same (AK j h).symm (AL h).symm
def nF{a:Act} {d:Option Tmp} {v:Value} {s:Nat} (h:d≠some s):(a.put d v).tmps[s]?=a.tmps[s]?:=by cases d with|none=>rfl|some d=>have j:d≠s:=fun e=>h (by rw[e]);simp[Act.put,h2 j]
def nG{a:Act} {d:Option Tmp} {v:Value}:(a.put d v).tmps.size=a.tmps.size:=by cases d<;>simp[Act.put]
def p7{a:Act} {d:Option Tmp} {v:Value}:(a.put d v).defers=a.defers:=by cases d<;>rfl
def p8{a:Act} {d:Nat} {v:Value} (h:d<a.tmps.size):(a.put (some d) v).tmps[d]?=some v:=by simp[Act.put,h]
def AN{a:Act} {d:Nat} {v:Value} (h:¬d<a.tmps.size):(a.put (some d) v).tmps[d]?=none:=by simp[Act.put];omega
def IG(H:SlotsOk ops)(u:∀(j:Nat)(o:Oper) cs b,ops[j]?=some o->o.op≠.select cs b) {C:World->Prop} {p:Act}:∀(l:List Oper)(k:Nat)(a:Act),(∀j,l[j]?=ops[k+j]?)->wpQuiet P ops C (fun E=>E=p) l a->(∀i o,k<=i->ops[i]?=some o->∃v,YieldsIn P ops C o v p/\∀d,o.dst=some d->d<p.tmps.size->p.tmps[d]?=some v)/\a.tmps.size=p.tmps.size/\a.defers=p.defers/\∀s,(∀j m,k<=j->ops[j]?=some m->m.dst≠some s)->a.tmps[s]?=p.tmps[s]?
 |[],k,a,hl,h=>by have V:a=p:=h;subst V;refine⟨fun i o c y=>?_,rfl,rfl,fun s _=>rfl⟩;have:=hl (i-k);rw[show k+(i-k)=i by omega,y]at this;simp at this|o::rest,k,a,hl,h=>by
  have q:ops[k]?=some o:=by simpa using (hl 0).symm
  have Y:qOp P ops C k (wpQuiet P ops C (fun E=>E=p) rest) a:=by unfold qOp;simp only[q];exact h
  obtain⟨v,Z,X⟩:=yieldsIn_of_qOp q Y;obtain⟨e,S,f,O⟩:=IG H u rest (k+1) (a.put o.dst v) (fun j=>by have:=hl (j+1);rw[B4]at this;rw[this];congr 1;omega) X;have F:∀s∈o.looksAt ops,a.tmps[s]?=p.tmps[s]?:=fun s D=>by
   have R:∀j m,k<=j->ops[j]?=some m->m.dst≠some s:=fun j m J y z=>by have:=(H.look k o s j m q D y z).1;omega
   rw[<-O s (fun j m J=>R j m Qa),nF (R k o (r3 _) q)]
  refine⟨fun i U c y=>?_,by rw[<-S,nG],by rw[<-f,p7],fun s D=>?_⟩
  .by_cases I:i=k;·subst I;obtain rfl:o=U:=D3 (q.symm.trans y);refine⟨v,AM (u _ _ · · q) F Z,fun d z L=>?_⟩;rw[<-O d (fun j m J N G=>by have:=H.dst i j o m d q N z G;omega),z];exact p8 (by rw[<-nG (a:=a) (d:=o.dst) (v:=v),S];exact L)
   .exact e i U Qa y
  .rw[<-O s (fun j m J=>D j m Qa),nF (D k o (r3 _) q)]
def tM(n:Nat)(h:Array Bool):Nat:=((List.range n).filter fun j=>!h.getD j true).length
def IH{α:Type} {p q:α->Bool}:∀(l:List α),(∀x,q x=true->p x=true)->(l.filter q).length<=(l.filter p).length
 |[],_=>r3 _|x::l,h=>by
  have m:=IH l h;simp only[aO];by_cases j:q x=true;·rw[Zc9 j,Zc9 (h x j)];simpa using m
  .rw[q' j];split;·simp only[L'];omega
   .exact m
def II{α:Type} {p q:α->Bool}:∀(l:List α),(∀x,q x=true->p x=true)->(∃x∈l,p x=true/\q x=false)->(l.filter q).length<(l.filter p).length
 |[],_,h=>by obtain⟨x,u,_⟩:=h;cases u|y::l,h,u=>by
  obtain⟨x,m,z,D⟩:=u;simp only[aO];rcases ZAW.1 m with rfl|m;·rw[q' (by rw[D];decide),Zc9 z];have:=IH l h;simp only[L'];omega
  .have E:=II l h ⟨x,m,z,D⟩;by_cases j:q y=true;·rw[Zc9 j,Zc9 (h y j)];simpa using E
   .rw[q' j];split;·simp only[L'];omega
    .exact E
def IJ{n i:Nat} {m:Array Bool} (a:i<n)(h:m.getD i true=false):tM n (m.setIfInBounds i true)<tM n m:=by
 refine II _ (fun j q=>?_) ⟨i,y0.2 a,by simp[h],?_⟩
 .by_cases p:i=j;·subst p;simp[h]
  .rw[gD true p]at q;exact q
 .have:(m.setIfInBounds i true).getD i true=true:=by simp only[fO,bF];by_cases u:i<m.size<;>simp[u]
  rw[this];rfl
end
section
variable {P:Program} {ops:Array Oper}
def iW(ops:Array Oper)(h:Array Bool)(a b:Act):Prop:=a.tmps.size=b.tmps.size/\a.defers=b.defers/\∀s:Nat,(∀(j:Nat)(m:Oper),ops[j]?=some m->m.dst=some s->h.getD j true=true)->a.tmps[s]?=b.tmps[s]?
def mD{m:Array Bool} {j:Nat} (h:m.getD j false=true):m.getD j true=true:=by
 rcases gA j m.size with p|p;·simp[p]at h |-;exact h
 .simp[eK p]at h
def TC(H:SlotsOk ops) {m:Array Bool} {a b:Act} (h:iW ops m a b) {i:Nat} {o:Oper} (c:ops[i]?=some o)(F:i∈Region.ready .any ops m):∀s∈o.looksAt ops,a.tmps[s]?=b.tmps[s]?:=fun s G=>h.2.2 s fun j J E z=>by obtain⟨_,e,D,y,u⟩:=H.look i o s j J c G E z;obtain⟨_,I,q,p⟩:=fI.1 F;obtain rfl:o=I:=D3 (c.symm.trans q);have:=p e D y;rw[u]at this;exact mD this
def IK(H:SlotsOk ops) {m:Array Bool} {a b:Act} (h:iW ops m a b) {i:Nat} {o:Oper} (c:ops[i]?=some o) {v:Value} (d:∀s,o.dst=some s->s<b.tmps.size->b.tmps[s]?=some v):iW ops (m.setIfInBounds i true) (a.put o.dst v) b:=by
 refine⟨by rw[nG];exact h.1,by rw[p7];exact h.2.1,fun s E=>?_⟩;by_cases u:o.dst=some s
 .rw[u];by_cases p:s<b.tmps.size;·rw[p8 (by rw[h.1];exact p),d s u p]
  .rw[AN (by rw[h.1];exact p),eK Qa]
 .rw[nF u];refine h.2.2 s fun j D z q=>?_;have y:i≠j:=by rintro rfl;obtain rfl:o=D:=D3 (c.symm.trans z);exact u q
  have:=E j D z q;rwa [gD true y]at this
def above(u:World):World->Prop:=fun x=>QB u x
def Before(ops:Array Oper)(w:World)(m k:Nat)(j:Act)(h:Array Bool)(a:Act)(x:World):Prop:=h.getD m true=false/\h.getD k true=false/\iW ops h a j/\QB w x
def TD{C:World->Prop} {Q:Exit->Act->World->Prop} {i:Nat} {o:Oper} {v:Value} {a:Act} {x:World} {K:Act->World->Prop} (c:ops[i]?=some o)(u:YieldsIn P ops C o v a)(p:C x)(h:∀b,C b->K (a.put o.dst v) b):wpOp P ops Q i K a x:=wpOp_of_qOp (K:=fun m=>m=a.put o.dst v) p (fun m d j q=>by subst q;exact h d j) (u.qOp c rfl)
def TE(H:SlotsOk ops) {m:Array Bool} (a:m.size=ops.size)(h:Region.ready .any ops m=[]):∀j,j<ops.size->m.getD j true=true:=by intro j;induction j using Nat.strongRecOn with|_ j ih=>intro q;cases E:m.getD j true with
  |true=>rfl|false=>exfalso;have:j∈Region.ready .any ops m:=fI.2 ⟨E,ops[j],y1 q,fun e D z=>by
    have u:=H.after j _ e (y1 q) D z;have p:=ih e.on u Qa;have y:e.on<m.size:=Qa
    simp[y]at p |-;exact p⟩;rw[h]at this;cases this
def TG{m:Array Bool} {a b:Act} (h:iW ops m a b)(c:∀j,j<ops.size->m.getD j true=true):a=b:=TA h.2.1 fun s=>h.2.2 s fun j q p _=>c j (iP p)
end
def TH(u:World):above u=fun a=>∃x:Grew u,a=x.val:=by funext a;exact propext ⟨fun h=>⟨⟨a,h⟩,rfl⟩,fun⟨x,j⟩=>by subst j;exact x.ok⟩
section
variable {P:Program} {ops:Array Oper}
def p9{h:Array Bool} (j:Nat):(h.setIfInBounds j true).getD j true=true:=by simp only[fO,bF];by_cases m:j<h.size<;>simp[m]
end
section
variable {P:Program} {ops:Array Oper}
def yieldsC(v:Value)(o:Oper):Oper:={o with op:=.move (.const v)}
end
section
variable {P:Program} {ops:Array Oper}
structure Gh where
 b:Nat
 a1:Option Addr
 a2:Option Addr
 a3:Option Addr
 c1:Nat
 c2:Nat
 c3:Nat
def Gh.zero:Gh:=⟨0,none,none,none,0,0,0⟩
def upd(g:Nat->Gh)(j:Nat)(h:Gh):Nat->Gh:=fun k=>if k=j then h else g k
def bV(L:Nat->Bool)(j:Nat):Nat->Bool:=fun k=>k==j||L k
def mixL(sp:List Nat)(h:Nat->Gh->Value)(g:Nat->Gh):Nat->List Oper->List Oper|_,[]=>[]|i,o::l=>(if sp.contains i then yieldsC (h i (g i)) o else o)::mixL sp h g (i+1) l
def G2(a:List Nat) (h:Nat->Gh->Value) (g:Nat->Gh):∀(l:List Oper) (i j:Nat),(mixL a h g i l)[j]?=(l[j]?).map fun o=>if a.contains (i+j)then yieldsC (h (i+j) (g (i+j))) o else o|[],i,j=>by simp[mixL]|o::l,i,0=>by simp[mixL]|o::l,i,j+1=>by simp only[mixL,B4];rw[G2 a h g l (i+1) j];congr 2;funext o;rw[show i+1+j=i+(j+1)by omega]
def bS(ops:Array Oper)(j:Nat):Nat->List Oper->List Nat->List Nat|_,[],acc=>acc|i,o::l,acc=>bS ops j (i+1) l (if i==j||(o.looksAt ops).any acc.contains then (match o.dst with|some d=>d::acc|none=>acc)else acc)
def IL{j:Nat} {G:Nat->Prop} (u:∀(i:Nat)(o:Oper)(d:Nat),ops[i]?=some o->o.dst=some d->(i=j∨∃s∈o.looksAt ops,G s)->G d):∀(l:List Oper)(i:Nat)(a:List Nat),(∀k,l[k]?=ops[i+k]?)->(∀d∈a,G d)->∀d∈bS ops j i l a,G d
 |[],i,a,_,ha,d,hd=>ha d hd|o::l,i,a,hl,ha,d,hd=>by
  unfold bS at hd;refine IL u l (i+1) _ (fun k=>by have:=hl (k+1);rw[B4]at this;rw[this];congr 1;omega) ?_ d hd;intro q m;split at m;·rename_i y;cases p:o.dst with|none=>rw[p]at m;exact ha q m|some e=>
    rw[p]at m;rcases ZAW.1 m with rfl|E
    .refine u i o q (by simpa using (hl 0).symm) p ?_;simp only[dR,bJ,h0,List.contains_iff_mem]at y;rcases y with h|⟨s,z,D⟩;·exact .inl h
     .exact .inr ⟨s,z,ha s D⟩
    .exact ha q E
  .exact ha q m
def bN(cs:List Nat):Nat->List Value->List Value|_,[]=>[]|i,v::l=>(if cs.contains i then undef else v)::bN cs (i+1) l
def IM(cs:List Nat):∀(l:List Value)(i s:Nat),(bN cs i l)[s]?=(l[s]?).map fun v=>if cs.contains (i+s)then undef else v|[],i,s=>by simp[bN]|v::l,i,0=>by simp[bN]|v::l,i,s+1=>by simp only[bN,B4];rw[IM cs l (i+1) s];congr 2;funext v;rw[show i+1+s=i+(s+1)by omega]
def TI{cs:List Nat} {t j:Array Value} (h:bN cs 0 t.toList=bN cs 0 j.toList) {s:Nat} (a:s∉cs):t[s]?=j[s]?:=by
 have:=D1 (fun l=>l[s]?) h;simp only[IM,w0]at this;have m:cs.contains s=false:=by simpa using a
 rw[m]at this;simpa using this
def bO(P:Program)(K:Value->World->Prop):Result Next->Prop|.ok (.value v) x=>K v x|.ok .skip x=>K undef x|.ok (.enter f args) x=>Calls P f args x fun e a=>∃v,e=.returned v/\K v a|_=>False
def TJ{o:Oper} {a:Act} {x:World} {K:Value->World->Prop} {N:Act->World->Prop} {Q:Exit->Act->World->Prop} (h:bO P K ((execOp a.eval o).run P x))(b:∀v c,K v c->N (a.put o.dst v) c):o.wp P a x N Q:=by unfold Oper.wp;cases j:(execOp a.eval o).run P x with
 |ok n c=>rw[j]at h;cases n with
  |value v=>exact b _ _ h|skip=>exact b _ _ h|enter f args=>rw[Oper.upon_enter];refine Calls.mono h ?_;rintro e p ⟨v,rfl,m⟩;exact b _ _ m|_=>exact h.elim
 |_=>rw[j]at h;exact h.elim
def C3{K:Value->World->Prop} {r:Result Next} {v:Value} {x:World} (j:r=.ok (.value v) x)(h:K v x):bO P K r:=by subst j;exact h
def gF{K:Value->World->Prop} {r:Result Next} {x:World} (j:r=.ok .skip x)(h:K undef x):bO P K r:=by subst j;exact h
def Q1{K:Value->World->Prop} {r:Result Next} {x:World} {f:FuncId} {c:Array Value} (j:r=.ok (.enter f c) x)(h:Calls P f c x fun e d=>∃v,e=.returned v/\K v d):bO P K r:=by subst j;exact h
def spB(ops:Array Oper)(a:List Nat):Bool:=a.all fun j=>match ops[j]? with|some o=>o.guard.isNone|none=>false
def FJ(ops:Array Oper)(C:World->Prop)(J:(Nat->Bool)->(Nat->Gh)->World->Prop)(m:(Nat->Gh)->Act)(h:Array Bool)(a:Act)(x:World):Prop:=C x/\(∀(i:Nat)(o:Oper),ops[i]?=some o->h.getD i true=true->∀e∈o.after,Region.binds .any e=true->h.getD e.on true=true)/\∃g,iW ops h a (m g)/\J (fun j=>h.getD j true) g x
def TK(h:Array Bool)(i:Nat):(fun j=>(h.setIfInBounds i true).getD j true)=bV (fun j=>h.getD j true) i:=funext fun j=>by
 unfold bV;by_cases m:i=j;·subst m;rw[p9,BEq.rfl,k4]
 .rw[gD true m];have:(j==i)=false:=by simpa using fun e=>m e.symm
  rw[this,S3]
end
structure OnlyB (b:Nat)(x x':World):Prop where
 below:∀n,n<=b->Below n x x'
 other:∀k,k≠b->x'.heap[k]?=x.heap[k]?
def OnlyB.refl(b:Nat)(x:World):OnlyB b x x:=⟨fun n _=>m' n x,fun _ _=>rfl⟩
def OnlyB.set{b:Nat} {x d:World} (h:OnlyB b x d)(o:Nat)(u:Value):OnlyB b x (d.setCell ⟨b,o,none⟩ u):=⟨fun n m=>(h.below n m).setCell m u,fun k j=>(A6 d ⟨b,o,none⟩ u k j).trans (h.other k j)⟩
def OnlyB.keep{b:Nat} {x d:World} (h:OnlyB b x d) {k:Nat} {o:Obj} (j:k≠b)(f:x.heap[k]?=some o):d.heap[k]?=some o:=(h.other k j).trans f
def ZJ{L:Nat->Bool} {j k:Nat} (h:k≠j):bV L j k=L k:=by
 unfold bV;have:(k==j)=false:=by simpa using h
 rw[this,S3]
def dP{L:Nat->Bool} {j:Nat}:bV L j j=true:=by simp[bV]
def upd_ne{g:Nat->Gh} {j k:Nat} {h:Gh} (m:k≠j):upd g j h k=g k:=by unfold upd;rw[q' m]
def Z4{g:Nat->Gh} {j:Nat} {h:Gh}:upd g j h j=h:=by unfold upd;rw[Zc9 rfl]
section
variable {P:Program}
end
def nH{P:Program} {f:Operand->Value} {o:Oper} {t d:TypeId} {p q:Operand} {b:Nat} {v0 v1 u0 u1:Value} {x:World} (u:o.op=.store t p q)(h0:v0.oneCell'=true)(m:v1.oneCell'=true)(h:Sem.run P (sizeOf t) x=.ok 2 x)(a:f p=.pointer (some b))(hq:f q=.agg #[v0,v1])(c:x.heap[b]?=some (.cells #[u0,u1] d)):(execOp f o).run P x=.ok .skip ((x.setCell ⟨b,0,none⟩ v0).setCell ⟨b,1,none⟩ v1):=by have j:=bk2 c;unfold execOp;rw[u];simp[go_sem,a,hq,j,h,kS _ _ _ v0 _ h0,kS _ _ _ v1 _ m]
def B7{P:Program} {f:Operand->Value} {o:Oper} {t r:TypeId} {p q:Operand} {b:Nat} {v0 v1 v2 u0 u1 u2:Value} {x:World} (y:o.op=.store t p q)(h0:v0.oneCell'=true)(m:v1.oneCell'=true)(u:v2.oneCell'=true)(h:Sem.run P (sizeOf t) x=.ok 3 x)(hp:f p=.pointer (some b))(hq:f q=.agg #[v0,v1,v2])(d:x.heap[b]?=some (.cells #[u0,u1,u2] r)):(execOp f o).run P x=.ok .skip (((x.setCell ⟨b,0,none⟩ v0).setCell ⟨b,1,none⟩ v1).setCell ⟨b,2,none⟩ v2):=by have j:=bk3 d;unfold execOp;rw[y];simp[go_sem,hp,hq,j,h,kS _ _ _ v0 _ h0,kS _ _ _ v1 _ m,kS _ _ _ v2 _ u]
section
variable {P:Program}
end
def TL{w x c:World} {a:Option Nat} (h:QB w x)(j:x.grownBy c a)(m:∀b,a=some b->w.heap.size<=b):QB w c:=h.grown j h.size m
section
variable {P:Program}
def TM(v:Value) (c:v.oneCell'=true) (x:World) (b o:Nat) (u:Value) (h:x.cell? ⟨b,o,none⟩=some u) (a:x.frozen? ⟨b,o,none⟩=false):(store ⟨b,o,none⟩ v).run P x=.ok () (x.setCell ⟨b,o,none⟩ v):=by cases v<;>first|(simp[Value.oneCell']at c;done)|simp[store,Sem.run,h,a]
def vI(b:Nat)(T:TypeId):∀(a:List Value)(i:Nat)(cs:List Value)(x:World),x.heap[b]?=some (.cells cs.toArray T)->i+a.length<=cs.length->(∀u∈a,u.oneCell'=true)->∃c,(storeCells ⟨b,0,none⟩ a i).run P x=.ok () c/\c.heap[b]?=some (.cells (cs.take i++a++cs.drop (i+a.length)).toArray T (0,0))/\x.grownBy c (some b)/\c.heap.size=x.heap.size
 |[],i,cs,x,hx,_,_=>⟨x,by simp[storeCells,Sem.run,pure],by simpa using hx,⟨rfl,rfl,rfl,r3 _,fun _ _ _=>rfl⟩,rfl⟩|v::a,i,cs,x,hx,hl,h1=>by
  simp only[L']at hl;have q:x.cell? ⟨b,i,none⟩=some (cs[i]'Qa):=by unfold World.cell?;simp only[hx];simp[h' (show i<cs.length by omega)]
  have y:x.frozen? ⟨b,i,none⟩=false:=by unfold World.frozen?;simp only[hx];simp
  have z:=TM (P:=P) v (h1 v Qd) x b i _ q y;have j:(x.setCell ⟨b,i,none⟩ v).heap[b]?=some (.cells (cs.set i v).toArray T (0,0)):=ZG hx v Qd;obtain⟨c,E,F,G,H⟩:=vI b T a (i+1) (cs.set i v) _ j Qk fun u D=>h1 u (by simp[D]);refine⟨c,?_,?_,?_,by rw[H];simp⟩
  .unfold storeCells;have e:(⟨b,0,none⟩:Addr).add i=⟨b,i,none⟩:=by unfold Addr.add;split<;>simp_all
   rw[e];simp only[aB,z,aA];exact E
  .rw[F];congr 2;apply D1;have m:(cs.set i v).take (i+1)=cs.take i++[v]:=by rw[r4,List.getElem?_set_self Qa,nD];rw[List.set_eq_of_length_le (by simp[Nat.min_le_left])];rfl
   have p:(cs.set i v).drop (i+1+a.length)=cs.drop (i+1+a.length):=by rw[List.drop_set_of_lt Qa]
   rw[m,p];simp only[L',Ap,M3,Q3];congr 4;omega
  .exact World.grownBy.trans (b:=x.setCell ⟨b,i,none⟩ v) ⟨rfl,rfl,rfl,Qd,fun k I h=>A6 x ⟨b,i,none⟩ v k fun e=>h (by rw[e])⟩ G
def vK(b:Nat)(T:TypeId)(cs:List Value)(x:World)(c:x.heap[b]?=some (.cells cs.toArray T)):∀(n i:Nat)(a:Array Value),i+n<=cs.length->(loadCellsFrom ⟨b,0,none⟩ i n a).run P x=.ok (a++((cs.drop i).take n).toArray) x
 |0,i,a,_=>by simp[loadCellsFrom,Sem.run,pure]|n+1,i,a,h=>by
  have j:x.cell? ⟨b,i,none⟩=some (cs[i]'Qa):=by unfold World.cell?;simp only[c];simp[h' (show i<cs.length by omega)]
  unfold loadCellsFrom;have e:(⟨b,0,none⟩:Addr).add i=⟨b,i,none⟩:=by unfold Addr.add;split<;>simp_all
  rw[e];have m:(load ⟨b,i,none⟩).run P x=.ok (cs[i]'Qa) x:=by simp[load,Sem.run,j]
  simp only[aB,m,aA];rw[vK b T cs x c n (i+1) _ Qa];rw[iJ (show i<cs.length by omega),sT];simp
variable {ops:Array Oper} {rest:List Oper} {o:Oper} {a:Act} {Q:Exit->Act->World->Prop}
def P0{w:World} (j:o.guard=none)(p q:Operand)(t:TypeId)(F:o.op=.store t p q)(b:Nat)(vs cs:List Value)(T:TypeId)(g:a.eval p=.pointer (some b))(hq:a.eval q=.agg vs.toArray)(m:(sizeOf t).run P w=.ok vs.length w)(hb:w.heap[b]?=some (.cells cs.toArray T))(E:cs.length=vs.length)(z:∀u∈vs,u.oneCell'=true)(h:∀d,d.heap[b]?=some (.cells vs.toArray T)->w.grownBy d (some b)->d.heap.size=w.heap.size->wpList P ops Q rest (a.put o.dst undef) d):wpList P ops Q (o::rest) a w:=by
 obtain⟨f,G,H,I,J⟩:=vI (P:=P) b T vs 0 cs w hb Qa z;refine l7 j fun K D=>?_;unfold Oper.wp execOp;have y:(storeVar t ⟨b,0,none⟩ (.agg vs.toArray)).run P w=.ok () f:=by unfold storeVar;simp only[aB,m,aA,Value.cells,A8,ne_eq,U9,Zyj];exact G
 simp only[F,Instr.storeAt,Instr.sureAddr,g,hq,aB,aC,aA,y];refine D _ _ (h f ?_ I J);rw[H];congr 2;apply D1;simp[E]
def x3{w:World} {t:TypeId} {b:Nat} {cs:List Value} {T:TypeId} (h:(isAgg t).run P w=.ok true w)(j:(sizeOf t).run P w=.ok cs.length w)(hb:w.heap[b]?=some (.cells cs.toArray T)):(loadVar t ⟨b,0,none⟩).run P w=.ok (.agg cs.toArray) w:=by unfold loadVar loadCells;simp only[aB,h,j,aA,Zyk];rw[vK b T cs w hb cs.length 0 #[] Qa];simp[Sem.run,pure]
def lI{w:World} (m:o.guard=none)(p:Operand)(t:TypeId)(z:o.op=.load t p)(b:Nat)(cs:List Value)(T:TypeId)(c:a.eval p=.pointer (some b))(j:(isAgg t).run P w=.ok true w)(q:(sizeOf t).run P w=.ok cs.length w)(hb:w.heap[b]?=some (.cells cs.toArray T))(h:wpList P ops Q rest (a.put o.dst (.agg cs.toArray)) w):wpList P ops Q (o::rest) a w:=by
 refine l7 m fun K y=>?_;unfold Oper.wp execOp;have u:(loadVar t ⟨b,0,none⟩).run P w=.ok (.agg cs.toArray) w:=by unfold loadVar loadCells;simp only[aB,j,q,aA,Zyk];rw[vK b T cs w hb cs.length 0 #[] Qa];simp[Sem.run,pure]
 simp only[z,Instr.loadAt,Instr.sureAddr,c,aB,aC,aA,u];exact y _ _ h
def jI(b:Addr)(w:World):(asAddr (.pointer (some b))).run P w=.ok b w:=rfl
def X2{fn:Func} {p:Tmp} {ty:TypeId} (h:fn.results=#[.cell p ty]) {j:Array Value} {w:World} {ad:Addr} {v:Value} (q:j.getD p undef=.pointer (some ad))(m:(loadVar ty ad).run P w=.ok v w):(results fn j).run P w=.ok v w:=by unfold results;rw[h];simp only[a8,eY,eZ,q,aB,aC,jI,aA,m,bind_assoc,pure_bind,b7];rfl
def K2{fn:Func} {p u:Tmp} {d:TypeId} (h:fn.results=#[.cell p d,.tmp u]) {j:Array Value} {w:World} {ad:Addr} {v:Value} (q:j.getD p undef=.pointer (some ad))(m:(loadVar d ad).run P w=.ok v w):(results fn j).run P w=.ok (.tuple #[v,j.getD u undef]) w:=by unfold results;rw[h];simp only[a8,eY,eZ,q,aB,aC,jI,aA,m,bind_assoc,pure_bind,b7];rfl
end
open Tryz
def dC(n m:Int):Bool:=hN n (-m) m
def qA(n m:Int)(w:World)(c:m.natAbs<=9000000000000000000):Calls prog 45 #[n,m] w fun e b=>e=.returned (dC n m)/\w=b:=by have h:IntKind.i64.wrap (-m)=-m:=j0 _ Qa;go_enter func45,ntmps45;go_wp2_with (go_at_call 30;refine(dD _ _ _ _).mono ?_;rintro e b ⟨rfl,rfl⟩);go_ret;exact⟨rfl,rfl⟩
def IN(n b:Int)(w:World)(a:0<b)(u:n.natAbs<=9000000000000000000):Calls prog 69 #[n,b] w fun e c=>e=.returned (.int .i64 (n / b))/\w=c:=by
 have j:¬b=0:=Qa
 have m:(b==0)=false:=by simpa using j
 have y:(n.tdiv b).natAbs<=n.natAbs:=by rw[Int.natAbs_tdiv];exact pS _ _
 have p:IntKind.i64.wrap (n.tdiv b)=n.tdiv b:=j0 _ Qa;by_cases h:n.tmod b<0;·have q:IntKind.i64.wrap (n.tdiv b-1)=n.tdiv b-1:=j0 _ Qa;go_enter func69,ntmps69;go_wp2;go_ret;exact⟨aU (Q6 n b a h),rfl⟩
 .go_enter func69,ntmps69;go_wp2;go_ret;exact⟨aU (Q8 n b a Qa),rfl⟩
def fH(n b:Int):Int:=(gcdL 0 [n,b]:Int)
def TN(n b:Int)(a:0<b):0<fH n b/\fH n b∣n/\fH n b∣b:=by have j:=oP (l:=[n,b]) (g:=0) b Qd Qa;have h:=(iB [n,b] 0).2;exact⟨by unfold fH;omega,h n Qd,h b Qd⟩
def AO(n b:Int)(w:World)(a:0<b)(Y:n.natAbs<=1000000000000000000)(u:b.natAbs<=1000000000000000000):Calls prog 37 #[n,b] w (Qt w (.agg #[.int .i64 (n / fH n b),.int .i64 (b / fH n b)])):=by
 obtain⟨q,L,N⟩:=TN n b a;have G:IntKind.i64.wrap (n.tdiv (fH n b))=n / fH n b:=kZ q L Y Qc;have H:IntKind.i64.wrap (b.tdiv (fH n b))=b / fH n b:=kZ q N u Qc;have R:=i' (by have O:=(ZK.new (T:=3) (w.alloc (.cells #[(0:Int),(0:Int)] 44)) [n,b]).at';simp only[P3]at O;exact pV (some ⟨w.heap.size+1,0,none⟩) [n,b] 2 ((w.alloc (.cells #[(0:Int),(0:Int)] 44)).alloc (.cells #[n,b] 3)) O Qd (by intro x S;simp only[ZAW,ZBg,Zyi]at S;rcases S with rfl|rfl<;>omega):Calls prog 63 #[.slice (some ⟨w.heap.size+1,0,none⟩) 2 2] ((w.alloc (.cells #[(0:Int),(0:Int)] 44)).alloc (.cells #[n,b] 3)) fun e c=>e=.returned (gcdL 0 [n,b]:Nat)/\Below ((w.alloc (.cells #[(0:Int),(0:Int)] 44)).alloc (.cells #[n,b] 3)).heap.size ((w.alloc (.cells #[(0:Int),(0:Int)] 44)).alloc (.cells #[n,b] 3)) c);obtain⟨g,z⟩:=Qu (fH n b);have m:((gcdL 0 [n,b]:Nat):Int)=g:=z;rw[m]at R;rw[z]at q G H |-;have E:¬g=0:=Qa
 have X:(g==0)=false:=by simpa using E
 clear z m L N;go_enter func37,ntmps37;go_wp2_with (go_at_call 63;refine R.out.mono ?_;rintro e d ⟨rfl,h⟩);have U:=Zx h (Qs:((w.alloc (.cells #[(0:Int),(0:Int)] 44)).alloc (.cells #[n,b] 3)).heap[w.heap.size]?=some (.cells #[(0:Int),(0:Int)] 44));have V:QB w d:=via Qi h;clear h;refine v8 w 7 Qb Qb Qi ?_;intro D y;simp only[sT,p',sA,B9];repeat (go_big_quiet_step (fail))
 refine Zyh ?_;intro f j I F;clear D y;have J:=Zx j U;have Z:=bk2 J;go_wp2;refine e5 (v:=.agg #[.int .i64 (n / g),.int .i64 (b / g)]) ?_ rfl ⟨rfl,?_⟩;·exact X2 (p:=4) (ad:=⟨w.heap.size,0,none⟩) rfl Qe (x3 (T:=44) (cs:=[.int .i64 (n / g),.int .i64 (b / g)]) Qb Qb (ZG (ZG J _ rfl) _ rfl))
 .go_grown
def TO(k a n d v:Int)(w:World)(z:n.natAbs<=1000000000000000)(b:d.natAbs<=1000000000000000)(c:v.natAbs<=1000):Calls prog 48 #[.agg #[k,a],.agg #[n,d],v] w (Qt w (.bool (if k=1 then decide (n*1000<v*d)else decide (n<v*d)))):=by
 have m:=g' c b;obtain⟨y,h⟩:=Qu (v*d);rw[h]at m;have q:IntKind.i64.wrap (v*d)=y:=by rw[h];exact j0 _ Qa
 have u:IntKind.i64.wrap (n*1000)=n*1000:=j0 _ Qa;rw[h];clear h m;by_cases j:k=1;·subst j;go_enter func48,ntmps48;go_wp2;go_ret;exact⟨gB Qd,Qi⟩
 .have p:(k==1)=false:=by simpa using j
  go_enter func48,ntmps48;go_wp2;go_ret;exact⟨gB (by simp[j]),Qi⟩
def tA(k a:Int):Int:=Z8 [unl (hN k 0 1) 15,unl (hN a 0 400) 2]
def qB(k b:Int)(w:World):Calls prog 47 #[.agg #[k,b]] w (Qt w (tA k b)):=by
 unfold tA;obtain⟨J,F⟩:=Qu (hN k 0 1);obtain⟨L,G⟩:=Qu (hN b 0 400);have j:=i' fun W=>dD k 0 1 W;have m:=i' fun W=>dD b 0 400 W;rw[F]at j |-;rw[G]at m |-;clear F G;go_enter func47,ntmps47;go_wp2;refine e9 ?_;intro H h;have p:QB w H:=by rw[h];go_grown
 have I:H.heap[w.heap.size]?=some (.cells #[k,b] 53):=by rw[h];exact Qs
 have D:=bk2 I;clear h;refine v8 w 8 Qb Qb p ?_;intro y u;simp only[sT,p',sA,B9];repeat (go_big_quiet_step (first
  |(go_at_call 30;first|with_reducible exact Zd (j.out _)|with_reducible exact Zd (m.out _))|(go_at_call 25;with_reducible exact Zd (hP _ _ _))))
 refine Zyh ?_;intro N q E z;clear y u;go_wp2_with (go_at_call 29;refine(hY _ _ _).mono ?_;rintro e c ⟨rfl,rfl⟩);go_ret;exact⟨rfl,Qi⟩
def TP(A:Option Addr)(l:List Pa)(c:Nat)(B:Nat)(f:Pa->Bool)(w:World)(a:l.length<=1000000)(G:At 5 Pa.cs w A l)(X:∀y∈l,∀W,QB w W->Calls prog 75 (#[.agg #[.string y.nm,y.a0,y.a1,y.c0,y.c1]]++#[.pointer (some B)]) W (Qt W (f y))):Calls prog 95 #[.slice A l.length c,.func (.func 75) #[] #[.pointer (some B)]] w fun e g=>(∃r:Int,e=.returned r/\decide (0<=r)=l.any f)/\QB w g:=by
 have u:=i' X;have H:=i' G;obtain⟨n,V⟩:=Qu l.length;have J:=i' V;rw[V]at a |-;clear G X V;go_enter func95,ntmps95;go_wp2_with fail;go_loopw [8] (fun i wr=>∃k:Nat,k<=n/\i=.int .i64 k/\Hid (((l.take k).any f)=false)/\QB w wr)(fun i _=>n-(intOf i).toNat);case atStart=>exact⟨0,e6 _,rfl,rfl,m' _ _⟩
 case round=>
  obtain⟨k,x,rfl,p,j⟩:=hrel;by_cases U:k<n
  .obtain⟨y,N⟩:∃y,l[k]?=some y:=⟨_,h' (by rw[J.out];exact U)⟩;obtain⟨b,o,rfl,Y,E⟩:=H.out.below j k y N;have z:=i' fun W I=>u.out y (e7 N) W I;obtain⟨q,O⟩:=Qu (f y);have D:Hid (((l.take (k+1)).any f)=q):=by obtain⟨R,Z⟩:=M0.1 N;unfold Hid;rw[l9 R,gP,Z,p.out];simpa using O
   have F:Hid (q=true->(l.any f)=true):=fun h=>by rw[h0];exact⟨y,e7 N,by rw[O,h]⟩
   rw[O]at z;(have t:=E 0 _ rfl;have C:=E 1 _ rfl;have K:=E 2 _ rfl;have M:=E 3 _ rfl;have P:=E 4 _ rfl;simp only[sW]at t);have v:(k:Int)<(n:Int):=Qa
   clear E N O p u;cases q
   .go_wp2_with (go_at_call 75;refine(z.out _ j).mono ?_;rintro e s ⟨rfl,I⟩;have j:=via j I);go_roundw;case rel=>exact⟨k+1,Qa,Qj,D,j⟩
    case measure=>simp[intOf];omega
   .have d:=F.out rfl;go_wp2_with (go_at_call 75;refine(z.out _ j).mono ?_;rintro e s ⟨rfl,I⟩;have j:=via j I);go_ret;exact⟨⟨k,rfl,by rw[d];simp⟩,j⟩
  .have S:k=n:=Qa
   subst S;have m:=p.out;rw[h9 (by rw[J.out];exact r3 _)]at m;have L:=i' m;clear p m u;go_wp2;go_ret;exact⟨⟨-1,rfl,by rw[L.out];decide⟩,j⟩
def TQ(A:Option Addr)(l:List Pa)(c:Nat)(B:Nat)(f:Pa->Bool)(w:World)(u:l.length<=1000000)(h:At 5 Pa.cs w A l)(j:∀y∈l,∀W,QB w W->Calls prog 75 (#[.agg #[.string y.nm,y.a0,y.a1,y.c0,y.c1]]++#[.pointer (some B)]) W (Qt W (f y))):Calls prog 74 #[.slice A l.length c,.func (.func 75) #[] #[.pointer (some B)]] w (Qt w (l.any f)):=by have m:=TP A l c B f w u h j;generalize (l.any f)=q at*;generalize l.length=n at*;clear h j;go_enter func74,ntmps74;go_wp2_with (go_at_call 95;refine m.mono ?_;rintro e D ⟨⟨r,rfl,z⟩,p⟩);go_ret;exact⟨rfl,p⟩
def TS(A:Option Addr)(l:List En)(c:Nat)(B:Nat)(f:En->Bool)(w:World)(a:l.length<=1000000)(F:At 3 En.cs w A l)(X:∀y∈l,∀W,QB w W->Calls prog 77 (#[.agg #[.string y.nm,.slice y.A y.co.length y.c,y.mo]]++#[.pointer (some B)]) W (Qt W (f y))):Calls prog 96 #[.slice A l.length c,.func (.func 77) #[] #[.pointer (some B)]] w fun e g=>(∃r:Int,e=.returned r/\decide (0<=r)=l.any f)/\QB w g:=by
 have u:=i' X;have G:=i' F;obtain⟨n,V⟩:=Qu l.length;have I:=i' V;rw[V]at a |-;clear F X V;go_enter func96,ntmps96;go_wp2_with fail;go_loopw [8] (fun i wr=>∃k:Nat,k<=n/\i=.int .i64 k/\Hid (((l.take k).any f)=false)/\QB w wr)(fun i _=>n-(intOf i).toNat);case atStart=>exact⟨0,e6 _,rfl,rfl,m' _ _⟩
 case round=>
  obtain⟨k,x,rfl,p,j⟩:=hrel;by_cases U:k<n
  .obtain⟨y,L⟩:∃y,l[k]?=some y:=⟨_,h' (by rw[I.out];exact U)⟩;obtain⟨b,o,rfl,Y,N⟩:=G.out.below j k y L;have z:=i' fun W H=>u.out y (e7 L) W H;obtain⟨q,O⟩:=Qu (f y);have D:Hid (((l.take (k+1)).any f)=q):=by obtain⟨R,Z⟩:=M0.1 L;unfold Hid;rw[l9 R,gP,Z,p.out];simpa using O
   have E:Hid (q=true->(l.any f)=true):=fun h=>by rw[h0];exact⟨y,e7 L,by rw[O,h]⟩
   rw[O]at z;(have t:=N 0 _ rfl;have C:=N 1 _ rfl;have K:=N 2 _ rfl;simp only[sW]at t);have v:(k:Int)<(n:Int):=Qa
   clear N L O p u;cases q
   .go_wp2_with (go_at_call 77;refine(z.out _ j).mono ?_;rintro e s ⟨rfl,H⟩;have j:=via j H);go_roundw;case rel=>exact⟨k+1,Qa,Qj,D,j⟩
    case measure=>simp[intOf];omega
   .have d:=E.out rfl;go_wp2_with (go_at_call 77;refine(z.out _ j).mono ?_;rintro e s ⟨rfl,H⟩;have j:=via j H);go_ret;exact⟨⟨k,rfl,by rw[d];simp⟩,j⟩
  .have S:k=n:=Qa
   subst S;have m:=p.out;rw[h9 (by rw[I.out];exact r3 _)]at m;have J:=i' m;clear p m u;go_wp2;go_ret;exact⟨⟨-1,rfl,by rw[J.out];decide⟩,j⟩
def TT(A:Option Addr)(l:List En)(c:Nat)(B:Nat)(f:En->Bool)(w:World)(u:l.length<=1000000)(h:At 3 En.cs w A l)(j:∀y∈l,∀W,QB w W->Calls prog 77 (#[.agg #[.string y.nm,.slice y.A y.co.length y.c,y.mo]]++#[.pointer (some B)]) W (Qt W (f y))):Calls prog 76 #[.slice A l.length c,.func (.func 77) #[] #[.pointer (some B)]] w (Qt w (l.any f)):=by have m:=TS A l c B f w u h j;generalize (l.any f)=q at*;generalize l.length=n at*;clear h j;go_enter func76,ntmps76;go_wp2_with (go_at_call 96;refine m.mono ?_;rintro e D ⟨⟨r,rfl,z⟩,p⟩);go_ret;exact⟨rfl,p⟩
def TU(A:Option Addr)(l:List Int)(c:Nat)  (f:Int->Bool)(w:World)(a:l.length<=1000000)(F:At 1 Zc w A l)(V:∀y∈l,∀W,QB w W->Calls prog 78 (#[.int .i64 y]++#[]) W (Qt W (f y))):Calls prog 87 #[.slice A l.length c,.func (.func 78) #[] #[]] w fun e g=>(∃r:Int,e=.returned r/\decide (0<=r)=l.any f)/\QB w g:=by
 have u:=i' V;have G:=i' F;obtain⟨n,U⟩:=Qu l.length;have I:=i' U;rw[U]at a |-;clear F V U;go_enter func87,ntmps87;go_wp2_with fail;go_loopw [8] (fun i wr=>∃k:Nat,k<=n/\i=.int .i64 k/\Hid (((l.take k).any f)=false)/\QB w wr)(fun i _=>n-(intOf i).toNat);case atStart=>exact⟨0,e6 _,rfl,rfl,m' _ _⟩
 case round=>
  obtain⟨k,x,rfl,p,j⟩:=hrel;by_cases S:k<n
  .obtain⟨y,L⟩:∃y,l[k]?=some y:=⟨_,h' (by rw[I.out];exact S)⟩;obtain⟨b,o,rfl,Y,X⟩:=G.out.below j k y L;have z:=i' fun W H=>u.out y (e7 L) W H;obtain⟨q,N⟩:=Qu (f y);have D:Hid (((l.take (k+1)).any f)=q):=by obtain⟨O,Z⟩:=M0.1 L;unfold Hid;rw[l9 O,gP,Z,p.out];simpa using N
   have E:Hid (q=true->(l.any f)=true):=fun h=>by rw[h0];exact⟨y,e7 L,by rw[N,h]⟩
   rw[N]at z;(have t:=X 0 _ rfl;simp only[sW,p1]at t);have v:(k:Int)<(n:Int):=Qa
   clear X L N p u;cases q
   .go_wp2_with (go_at_call 78;refine(z.out _ j).mono ?_;rintro e s ⟨rfl,H⟩;have j:=via j H);go_roundw;case rel=>exact⟨k+1,Qa,Qj,D,j⟩
    case measure=>simp[intOf];omega
   .have d:=E.out rfl;go_wp2_with (go_at_call 78;refine(z.out _ j).mono ?_;rintro e s ⟨rfl,H⟩;have j:=via j H);go_ret;exact⟨⟨k,rfl,by rw[d];simp⟩,j⟩
  .have R:k=n:=Qa
   subst R;have m:=p.out;rw[h9 (by rw[I.out];exact r3 _)]at m;have J:=i' m;clear p m u;go_wp2;go_ret;exact⟨⟨-1,rfl,by rw[J.out];decide⟩,j⟩
def IP(A:Option Addr)(l:List Int)(c:Nat)  (f:Int->Bool)(w:World)(u:l.length<=1000000)(h:At 1 Zc w A l)(j:∀y∈l,∀W,QB w W->Calls prog 78 (#[.int .i64 y]++#[]) W (Qt W (f y))):Calls prog 64 #[.slice A l.length c,.func (.func 78) #[] #[]] w (Qt w (l.any f)):=by have m:=TU A l c  f w u h j;generalize (l.any f)=q at*;generalize l.length=n at*;clear h j;go_enter func64,ntmps64;go_wp2_with (go_at_call 87;refine m.mono ?_;rintro e D ⟨⟨r,rfl,z⟩,p⟩);go_ret;exact⟨rfl,p⟩
def TV(A:Option Addr)(l:List Int)(c:Nat)  (f:Int->Bool)(w:World)(a:l.length<=1000000)(F:At 1 Zc w A l)(V:∀y∈l,∀W,QB w W->Calls prog 65 (#[.int .i64 y]++#[]) W (Qt W (f y))):Calls prog 87 #[.slice A l.length c,.func (.func 65) #[] #[]] w fun e g=>(∃r:Int,e=.returned r/\decide (0<=r)=l.any f)/\QB w g:=by
 have u:=i' V;have G:=i' F;obtain⟨n,U⟩:=Qu l.length;have I:=i' U;rw[U]at a |-;clear F V U;go_enter func87,ntmps87;go_wp2_with fail;go_loopw [8] (fun i wr=>∃k:Nat,k<=n/\i=.int .i64 k/\Hid (((l.take k).any f)=false)/\QB w wr)(fun i _=>n-(intOf i).toNat);case atStart=>exact⟨0,e6 _,rfl,rfl,m' _ _⟩
 case round=>
  obtain⟨k,x,rfl,p,j⟩:=hrel;by_cases S:k<n
  .obtain⟨y,L⟩:∃y,l[k]?=some y:=⟨_,h' (by rw[I.out];exact S)⟩;obtain⟨b,o,rfl,Y,X⟩:=G.out.below j k y L;have z:=i' fun W H=>u.out y (e7 L) W H;obtain⟨q,N⟩:=Qu (f y);have D:Hid (((l.take (k+1)).any f)=q):=by obtain⟨O,Z⟩:=M0.1 L;unfold Hid;rw[l9 O,gP,Z,p.out];simpa using N
   have E:Hid (q=true->(l.any f)=true):=fun h=>by rw[h0];exact⟨y,e7 L,by rw[N,h]⟩
   rw[N]at z;(have t:=X 0 _ rfl;simp only[sW,p1]at t);have v:(k:Int)<(n:Int):=Qa
   clear X L N p u;cases q
   .go_wp2_with (go_at_call 65;refine(z.out _ j).mono ?_;rintro e s ⟨rfl,H⟩;have j:=via j H);go_roundw;case rel=>exact⟨k+1,Qa,Qj,D,j⟩
    case measure=>simp[intOf];omega
   .have d:=E.out rfl;go_wp2_with (go_at_call 65;refine(z.out _ j).mono ?_;rintro e s ⟨rfl,H⟩;have j:=via j H);go_ret;exact⟨⟨k,rfl,by rw[d];simp⟩,j⟩
  .have R:k=n:=Qa
   subst R;have m:=p.out;rw[h9 (by rw[I.out];exact r3 _)]at m;have J:=i' m;clear p m u;go_wp2;go_ret;exact⟨⟨-1,rfl,by rw[J.out];decide⟩,j⟩
def TW(A:Option Addr)(l:List Int)(c:Nat)  (f:Int->Bool)(w:World)(u:l.length<=1000000)(h:At 1 Zc w A l)(j:∀y∈l,∀W,QB w W->Calls prog 65 (#[.int .i64 y]++#[]) W (Qt W (f y))):Calls prog 64 #[.slice A l.length c,.func (.func 65) #[] #[]] w (Qt w (l.any f)):=by have m:=TV A l c  f w u h j;generalize (l.any f)=q at*;generalize l.length=n at*;clear h j;go_enter func64,ntmps64;go_wp2_with (go_at_call 87;refine m.mono ?_;rintro e D ⟨⟨r,rfl,z⟩,p⟩);go_ret;exact⟨rfl,p⟩
def AP(lo hi m:Int)(w:World):Calls prog 70 #[.agg #[lo,hi],m] w (Qt w (eE lo hi m)):=by unfold eE;obtain⟨R,I⟩:=Qu (hN lo 0 m);obtain⟨S,J⟩:=Qu (hN hi 0 m);obtain⟨U,q⟩:=Qu (decide (lo<=hi));have j:=i' fun W=>dD lo 0 m W;have p:=i' fun W=>dD hi 0 m W;rw[I]at j |-;rw[J]at p |-;rw[q];have u:=i' q;clear I J q;cases R;all_goals
  go_enter func70,ntmps70;go_wp2;refine e9 ?_;intro N h;have y:QB w N:=by rw[h];go_grown
  have O:N.heap[w.heap.size]?=some (.cells #[lo,hi] 58):=by rw[h];exact Qs
  have D:=bk2 O;clear h;have L:=u.out;refine v8 w 17 Qb Qb y ?_;intro F E;simp only[sT,p',sA,B9];repeat (go_big_quiet_step (first
   |(go_at_call 30;first|with_reducible exact Zd (j.out _)|with_reducible exact Zd (p.out _))|(go_at_call 25;with_reducible exact Zd (hP _ _ _))))
  refine Zyh ?_;intro V z H G;clear F E;go_wp2_with (go_at_call 29;refine(hY _ _ _).mono ?_;rintro e a ⟨rfl,rfl⟩);go_ret;exact⟨aU Qd,Qi⟩
def TX(p q:Pa)(B:Nat)(w:World)(a:w.heap[B]?=some (.cells #[.string p.nm,p.a0,p.a1,p.c0,p.c1] 69)):Calls prog 75 (#[.agg #[.string q.nm,q.a0,q.a1,q.c0,q.c1]]++#[.pointer (some B)]) w (Qt w (eqS q.nm p.nm)):=by
 have h:w.cell? B=some (.string p.nm):=by unfold World.cell?;simp[a]
 have j:=ZE a;clear a;simp only[b6,M3,Q3];go_enter func75,ntmps75;go_wp2;go_ret;exact⟨gB (by simp[eqS]),Qi⟩
def TY(p q:En)(B:Nat)(w:World)(a:w.heap[B]?=some (.cells #[.string p.nm,.slice p.A p.co.length p.c,p.mo] 71)):Calls prog 77 (#[.agg #[.string q.nm,.slice q.A q.co.length q.c,q.mo]]++#[.pointer (some B)]) w (Qt w (eqS q.nm p.nm)):=by have h:=(bk3 a).1;have j:=ZE a;clear a;simp only[b6,M3,Q3];go_enter func77,ntmps77;go_wp2;go_ret;exact⟨gB (by simp[eqS]),Qi⟩
def IQ(n:Int)(w:World):Calls prog 78 (#[.int .i64 n]++#[]) w (Qt w (.bool (!dC n 20))):=by simp only[b6,M3,Q3];go_enter func78,ntmps78;go_wp2_with (go_at_call 45;refine(qA _ _ _ Qc).mono ?_;rintro e a ⟨rfl,rfl⟩);go_ret;exact⟨rfl,m' _ _⟩
variable {w:World} {ps:List Pa} {i:Nat} {es:List En}
def At.take'{α:Type} {a:Nat} {cs:α->List Value} {A:Option Addr} {l:List α} (h:At a cs w A l)(n:Nat):At a cs w A (l.take n):=by
 intro k x j;rw[dN]at j;split at j;·exact h k x j
 .cases j
def fM:List Int->Nat->Option (Nat×Int)|[],_=>none|e::l,k=>if e=0 then fM l (k+1)else some (k,e)
def Q':∀(l:List Int)(k:Nat),(∀i,i<l.length->l.getD i 0=0)->fM l k=none|[],_,_=>rfl|e::l,k,h=>by unfold fM;rw[Zc9 (show e=0 by simpa using h 0 Qd)];exact Q' l (k+1) fun i a=>by have:=h (i+1) (by simpa using a);simpa using this
def lJ:∀(l:List Int)(k i:Nat),i<l.length->(∀j,j<i->l.getD j 0=0)->l.getD i 0≠0->fM l k=some (k+i,l.getD i 0)|[],_,_,h,_,_=>by simp at h|e::l,k,0,_,_,h=>by unfold fM;rw[q' (show ¬e=0 by simpa using h)];rfl|e::l,k,i+1,hi,h1,h2=>by unfold fM;rw[Zc9 (show e=0 by simpa using h1 0 Qa),lJ l (k+1) i (by simpa using hi) (fun j m=>by simpa using h1 (j+1) Qa) (by simpa using h2)];simp;omega
def cR(ps:List Pa)(i:Nat)(p:Pa):Int:=Z8 [unl (c6 p.nm.data.toList) 4,unl (!((ps.take i).any fun q=>eqS q.nm p.nm)) 5,eE p.a0 p.a1 400,eE p.c0 p.c1 20]
def cS(np:Nat)(es:List En)(i:Nat)(x:En):Int:=Z8 [unl (c6 x.nm.data.toList) 4,unl (!((es.take i).any fun y=>eqS y.nm x.nm)) 5,unl (decide (x.co.length=np)) 10,unl (!((x.mo::x.co).any fun n=>!dC n 20)) 2]
def cW(ps:List Pa):List Int:=ps.mapIdx fun i p=>cR ps i p
def dX(np:Nat)(es:List En):List Int:=es.mapIdx fun i x=>cS np es i x
def gJ{p:Pa} (h:ps[i]?=some p):(cW ps).getD i 0=cR ps i p:=by simp[cW,h6,h]
def L2{np:Nat} {x:En} (h:es[i]?=some x):(dX np es).getD i 0=cS np es i x:=by simp[dX,h6,h]
def cQ(n:Nat):Int:=Z8 [unl (decide (0<n)) 10,unl (decide (n<=5)) 8]
def ZY(ps:List Pa)(es:List En):Int×Int:=if cQ ps.length≠0 then (0,cQ ps.length) else match fM (cW ps) 0 with|some (k,e)=>((k:Int),e)|none=>if 8<es.length then (0,8)else match fM (dX ps.length es) 0 with|some (k,e)=>((k:Int),e)|none=>(0,0)
structure BookAt (w:World)(pA:Option Addr)(pc:Nat)(ps:List Pa)(eA:Option Addr)(ec:Nat)(es:List En):Prop where
 P:At 5 Pa.cs w pA ps
 E:h7 w eA es
 pc':ps.length<=pc
 ec':es.length<=ec
 nil:∀x∈es,x.A=none->x.c=0
def BookAt.below{w':World} {p j:Option Addr} {q m:Nat} (h:BookAt w p q ps j m es)(hb:QB w w'):BookAt w' p q ps j m es:=⟨h.P.below hb,h.E.below hb,h.pc',h.ec',h.nil⟩
structure FewB (ps:List Pa)(es:List En):Prop where
 p:ps.length<=1000
 e:es.length<=1000
 pn:∀p∈ps,p.nm.size<=1000
 en:∀x∈es,x.nm.size<=1000
 co:∀x∈es,x.co.length<=1000
def TZ{P:Program} {b:Array Oper} {Q:Exit->Act->World->Prop} {l:List Oper} {a:Act} (h:∀W,W=w->wpList P b Q l a W):wpList P b Q l a w:=h w rfl
def T0(pA eA:Option Addr)(pc ec z d:Nat)(ps:List Pa)(es:List En)(w:World)(hB:BookAt w pA pc ps eA ec es)(hF:FewB ps es)(aR:ps.length=z)(aO:es.length=d):Calls prog 49 #[.agg #[.slice pA z pc,.slice eA d ec]] w (Qt w (.tuple #[(ZY ps es).1,(ZY ps es).2])):=by
 have cO:z<=pc:=by rw[<-aR];exact hB.pc'
 have cM:d<=ec:=by rw[<-aO];exact hB.ec'
 have cN:z<=1000:=by rw[<-aR];exact hF.p
 have cL:d<=1000:=by rw[<-aO];exact hF.e
 have aJ:=i' hB;have bA:=i' hF;have aD:=i' aR;have X:=i' aO;have hv:=i' (show ZY ps es=if cQ z≠0 then (0,cQ z) else match fM (cW ps) 0 with
    |some (k,e)=>((k:Int),e)|none=>if 8<d then (0,8)else match fM (dX z es) 0 with
     |some (k,e)=>((k:Int),e)|none=>(0,0)by rw[<-aR,<-aO];rfl);obtain⟨V,hV⟩:=Qu (ZY ps es);rw[hV]at hv |-;have aX:Hid (cQ z=Z8 [unl (decide (0<z)) 10,unl (decide (z<=5)) 8]):=rfl;obtain⟨S,hS⟩:=Qu (cQ z);rw[hS]at hv aX;clear hB hF aR aO hV hS;obtain⟨s1,bF⟩:=Qu (decide (0<z));obtain⟨s2,bG⟩:=Qu (decide (z<=5));rw[bF,bG]at aX;have bP:decide ((0:Int)<(z:Int))=s1:=by rw[<-bF,uV];omega
 have bQ:decide ((z:Int)<=5)=s2:=by rw[<-bG,uV];omega
 go_enter func49,ntmps49;go_wp2;refine e9 ?_;intro w1 bH;have bE:QB w w1:=by rw[bH];go_grown
 have M0:w1.heap[w.heap.size]?=some (.cells #[.slice pA z pc,.slice eA d ec] 25):=by rw[bH];exact Qs
 have D:=bk2 M0;clear bH;refine v8 w 10 Qb Qb bE ?_;intro aG aF;simp only[sT,p',sA,B9];repeat (go_big_quiet_step ((go_at_call 25;with_reducible exact Zd (hP _ _ _))))
 refine Zyh ?_;intro wb h F Z;clear aG aF;have g:=Zx h M0;have D2:=bk2 g;have H:=via bE h;clear M0 D bE h;have Q:=i' aX.out.symm;by_cases bD:S=0
 .subst bD;have m:=Q.out;have aS:=i' (show V=match fM (cW ps) 0 with|some (k,e)=>((k:Int),e)|none=>if 8<d then (0,8)else match fM (dX z es) 0 with
     |some (k,e)=>((k:Int),e)|none=>(0,0)by rw[hv.out,q' Qd]);clear hv aX Q bF bG bP bQ;go_wp2_with (go_at_call 29;refine(hY _ _ _).mono ?_;rw[m];rintro e w' ⟨rfl,rfl⟩);go_loopw [32] (fun i wr=>∃k:Nat,k<=z/\i=.int .i64 k/\Hid (∀j,j<k->(cW ps).getD j 0=0)/\wr.heap[w.heap.size]?=some (.cells #[.slice pA z pc,.slice eA d ec] 25 (0,0))/\QB w wr)(fun i _=>z-(intOf i).toNat);case atStart=>exact⟨0,e6 _,rfl,fun j hj=>Qa,Qs,Qi⟩
  case round=>
   clear g D2 H F Z m;obtain⟨k,hk,rfl,C,g,H⟩:=hrel;have D:=bk2 g;by_cases aH:k<z
   .have cA:(k:Int)<(z:Int):=Qa
    obtain⟨p,hp⟩:∃p,ps[k]?=some p:=⟨_,h' (by rw[aD.out];exact aH)⟩;obtain⟨b,o,rfl,bW,v⟩:=(aJ.out.below H).P k p hp;have y0:=v 0 _ rfl;have y1:=v 1 _ rfl;have y2:=v 2 _ rfl;have y3:=v 3 _ rfl;have y4:=v 4 _ rfl;simp only[sW]at y0;have J:=i' (gJ hp);have cC:¬((pc:Int)<(k:Int)):=Qa
    have bM:(k:Int)<=(pc:Int):=Qa
    have G:=i' (by have t:=TQ (some ⟨b,o,none⟩) (ps.take k) pc wr.heap.size (fun q=>eqS q.nm p.nm) (wr.alloc (.cells #[.string p.nm,p.a0,p.a1,p.c0,p.c1] 69)) (by rw[y5];have:=aD.out;omega) (((aJ.out.below H).P.take' k).below (ZB _ _)) (fun y _ W hW=>TX p y wr.heap.size W (Zx hW (ZA _ _ rfl)));rw[y5,aD.out,U2 Qa]at t;exact t);obtain⟨q,hq⟩:∃q,(ps.take k).any (fun q=>eqS q.nm p.nm)=q:=⟨_,rfl⟩;rw[hq]at G;have U:Hid (cR ps k p=Z8 [unl (c6 p.nm.data.toList) 4,unl (!((ps.take k).any fun q=>eqS q.nm p.nm)) 5,eE p.a0 p.a1 400,eE p.c0 p.c1 20]):=rfl;rw[hq]at U;obtain⟨E,hE⟩:=Qu (cR ps k p);rw[hE]at U J;have aW:=i' (show p.nm.size<=9223372036854775807 from l3 (bA.out.pn p (e7 hp)) Qc);have cE:=ZE g;clear v hp hq hE;go_wp2_with (go_at_call 74;refine G.out.mono ?_;rintro e f ⟨rfl,I⟩);have a:=Zx I (Zz g (.cells #[.string p.nm,p.a0,p.a1,p.c0,p.c1] 69));have N:=Zx I (ZA wr (.cells #[.string p.nm,p.a0,p.a1,p.c0,p.c1] 69) rfl);have aB:=via H (via (ZB wr (.cells #[.string p.nm,p.a0,p.a1,p.c0,p.c1] 69)) I);have e0:f.cell? wr.heap.size=some (.string p.nm):=by unfold World.cell?;simp[N]
    have e1:f.cell? ⟨wr.heap.size,1,none⟩=some (.int .i64 p.a0):=by unfold World.cell?;simp[N]
    have e2:f.cell? ⟨wr.heap.size,2,none⟩=some (.int .i64 p.a1):=by unfold World.cell?;simp[N]
    have e3:f.cell? ⟨wr.heap.size,3,none⟩=some (.int .i64 p.c0):=by unfold World.cell?;simp[N]
    have e4:f.cell? ⟨wr.heap.size,4,none⟩=some (.int .i64 p.c1):=by unfold World.cell?;simp[N]
    have cP:=ZE N;clear y0 y1 y2 y3 y4 I D g G;refine v8 w 13 Qb Qb aB ?_;intro aG aF;simp only[sT,p',sA,B9];repeat (go_big_quiet_step (first|(go_at_call 46;with_reducible exact Grew.call (mA _ _ aW.out))|(go_at_call 25;with_reducible exact Zd (hP _ _ _))|(go_at_call 70;with_reducible exact Grew.call (AP _ _ _ _))))
    refine Zyh ?_;intro wb h F Z;clear aG aF;have P0:=Zx h a;clear a N e0 e1 e2 e3 e4 aB h;have Q:=i' U.out.symm;have m:=Q.out;by_cases O:E=0
    .subst O;go_wp2_with (go_at_call 29;refine(z' _ _ _ _ _).mono ?_;rw[m];rintro e w' ⟨rfl,rfl⟩);go_roundw;case rel=>exact⟨k+1,Qa,Qj,(fun j hj=>by
      by_cases aP:j=k;·rw[aP,J.out]
      .exact C.out j Qa),Zz P0 _,via F (ZB _ _)⟩
     case measure=>exact Qv
    .have bK : (E != 0) = true := by simpa using O
     have aU:=i' (show V=((k:Int),E)by rw[aS.out,lJ (cW ps) 0 k (by simp[cW];rw[aD.out];exact aH) C.out (by rw[J.out];exact O),J.out];simp);go_wp2_with (go_at_call 29;refine(z' _ _ _ _ _).mono ?_;rw[m];rintro e w' ⟨rfl,rfl⟩);go_ret2;exact⟨by rw[aU.out];rfl,Qi⟩
   .obtain rfl:z=k:=Qa
    have bS:=i' (show V=if 8<d then (0,8)else match fM (dX z es) 0 with
      |some (k,e)=>((k:Int),e)|none=>(0,0)by rw[aS.out,Q' (cW ps) 0 fun i B=>C.out i (by simp[cW]at B;rw[aD.out]at B;exact B)]);clear C aH aS;by_cases h8:8<d
    .have aT:=i' (show V=(0,8)by rw[bS.out,Zc9 h8]);have bT:(8:Int)<(d:Int):=Qa
     go_wp2;go_ret2;exact⟨by rw[aT.out];rfl,Qi⟩
    .have bT:¬(8:Int)<(d:Int):=Qa
     have aT:=i' (show V=match fM (dX z es) 0 with|some (k,e)=>((k:Int),e)|none=>(0,0)by rw[bS.out,q' h8]);go_wp2;go_loopw [70] (fun i wr=>∃k:Nat,k<=d/\i=.int .i64 k/\Hid (∀j,j<k->(dX z es).getD j 0=0)/\wr.heap[w.heap.size]?=some (.cells #[.slice pA z pc,.slice eA d ec] 25)/\QB w wr)(fun i _=>d-(intOf i).toNat);case atStart=>exact⟨0,e6 _,rfl,fun j hj=>Qa,g,H⟩
     case round=>
      clear g D H;obtain⟨k,hk,rfl,C,g,H⟩:=hrel;have D:=bk2 g;by_cases aH:k<d
      .have cA:(k:Int)<(d:Int):=Qa
       obtain⟨x,hx⟩:∃x,es[k]?=some x:=⟨_,h' (by rw[X.out];exact aH)⟩;have aV:=e7 hx;obtain⟨b,o,rfl,bW,v⟩:=(aJ.out.below H).E.1 k x hx;have y0:=v 0 _ rfl;have y1:=v 1 _ rfl;have y2:=v 2 _ rfl;simp only[sW]at y0;have J:=i' (L2 (np:=z) hx);have cC:¬((ec:Int)<(k:Int)):=Qa
       have bM:(k:Int)<=(ec:Int):=Qa
       have G:=i' (by have t:=TT (some ⟨b,o,none⟩) (es.take k) ec wr.heap.size (fun y=>eqS y.nm x.nm) (wr.alloc (.cells #[.string x.nm,.slice x.A x.co.length x.c,x.mo] 71)) (by rw[y5];have:=X.out;omega) (((aJ.out.below H).E.1.take' k).below (ZB _ _)) (fun y _ W hW=>TY x y wr.heap.size W (Zx hW (ZA _ _ rfl)));rw[y5,X.out,U2 Qa]at t;exact t);obtain⟨q,hq⟩:=Qu ((es.take k).any (fun y=>eqS y.nm x.nm));rw[hq]at G;have U:Hid (cS z es k x=Z8 [unl (c6 x.nm.data.toList) 4,unl (!((es.take k).any fun y=>eqS y.nm x.nm)) 5,unl (decide (x.co.length=z)) 10,unl (!((x.mo::x.co).any fun n=>!dC n 20)) 2]):=rfl;rw[hq]at U;obtain⟨E,hE⟩:=Qu (cS z es k x);rw[hE]at U J;have aW:=i' (show x.nm.size<=9223372036854775807 from l3 (bA.out.en x aV) Qc);have bJ:=i' ((aJ.out.below H).E.2 x aV);have bZ:=bA.out.co x aV;have aZ:=i' (aJ.out.nil x aV);have cE:=ZE g;obtain⟨L,hL⟩:=Qu x.co.length;have bB:=i' hL;rw[hL]at G U bZ y1;obtain⟨r,hr⟩:=Qu ((x.mo::x.co).any (fun n=>!dC n 20));have bO:=i' hr;rw[hr]at U;obtain⟨s,hs⟩:=Qu (decide (L=z));rw[hs]at U;have bR:((L:Int)==(z:Int))=s:=by rw[<-hs,dE];simp;omega
       obtain⟨i0,B,cG,cH,cI⟩:=x0 info3;clear v hx aV hq hE hL hr;have aQ:=i' fun(y:World)=>(⟨rfl,.inr ⟨y.heap.size,1,#[.int .i64 x.mo],rfl,r3 _,ZA _ _ rfl,r3 _,Qc,rfl,rfl⟩⟩:(y.alloc (.cells #[x.mo] 3)).ownsRow y.heap.size 3 1 (.slice (some y.heap.size) 1 1) 1 [.int .i64 x.mo]);obtain⟨XA,bV⟩:=Qu x.A;rw[bV]at y1 bJ aZ G;rcases XA with _|ad
       .have aN:x.co=[]:=by cases hh:x.co with|nil=>rfl|cons y l=>obtain⟨b',o',e,-⟩:=bJ.out 0 y (by rw[hh];rfl);cases e
        have bU:L=0:=by rw[<-bB.out,aN];rfl
        subst bU;have cJ:((0:Int)==(z:Int))=s:=bR;clear bR;have bX:=aZ.out rfl;rw[bX]at y1 G;have G:=i' G.out;go_wp2_with (first|(go_at_call 76;refine G.out.mono ?_;rintro e f ⟨rfl,I⟩;have N:=Zx I (ZA wr (.cells #[.string x.nm,.slice none 0 0,x.mo] 71) rfl);have M:=bk3 N;have a:=Zx I (Zz g (.cells #[.string x.nm,.slice none 0 0,x.mo] 71));have K:=bk2 a;have aB:=via H (via (ZB wr (.cells #[.string x.nm,.slice none 0 0,x.mo] 71)) I))|(at_builtin;refine wpList_append_own_none rfl _ _ 28 rfl f.heap.size 3 i0 1 underlying28 B _ 1 [.int .i64 x.mo] rfl (aQ.out f) rfl ?_;refine SY ?stop));case stop=>
        refine i' ?_;refine TZ ?_;intro w4 bI;have R:QB f w4:=by rw[bI];exact ZB _ _
        have aE:=i' (show At 1 Zc w4 (some ⟨f.heap.size,0,none⟩) (x.mo::x.co)by rw[aN,bI];exact(ZK.new (T:=3) f [x.mo]).at');have aC:=i' (show (x.mo::x.co).length=1 by rw[aN];rfl);clear bI;have aK:=i' (by have t:=IP _ (x.mo::x.co) 1 (fun n=>!dC n 20) w4 (by rw[aC.out];omega) aE.out (fun y _ W hW=>IQ y W);rw[bO.out,aC.out]at t;exact t);have O0:=Zx R a;have O1:=Zx R N;have aL:=via aB R;have K:=bk2 O0;have M:=bk3 O1;clear a N aB G;go_wp2_with (go_at_call 64;refine aK.out.mono ?_;rintro e w6 ⟨rfl,Y⟩);have a:=Zx Y O0;have N:=Zx Y O1;have aM:=via aL Y;clear K M O0 O1 aL Y aK;have K:=bk2 a;have M:=bk3 N;have cD:=ZE N;refine v8 w 18 Qb Qb aM ?_;intro aG aF;simp only[sT,p',sA,B9];repeat (go_big_quiet_step (first
         |(go_at_call 46;with_reducible exact Grew.call (mA _ _ aW.out))|(go_at_call 25;with_reducible exact Zd (hP _ _ _))))
        refine Zyh ?_;intro wb h F Z;clear aG aF;have P0:=Zx h a;clear a N K M aM h;have Q:=i' U.out.symm;have m:=Q.out;by_cases O:E=0
        .subst O;go_wp2_with (go_at_call 29;refine(z' _ _ _ _ _).mono ?_;rw[m];rintro e w' ⟨rfl,rfl⟩);go_roundw;case rel=>exact⟨k+1,Qa,Qj,(fun j hj=>by
          by_cases aP:j=k;·rw[aP,J.out]
          .exact C.out j Qa),Zz P0 _,via F (ZB _ _)⟩
         case measure=>exact Qv
        .have bK : (E != 0) = true := by simpa using O
         have aU:=i' (show V=((k:Int),E)by rw[aT.out,lJ (dX z es) 0 k (by simp[dX];rw[X.out];exact aH) C.out (by rw[J.out];exact O),J.out];simp);go_wp2_with (go_at_call 29;refine(z' _ _ _ _ _).mono ?_;rw[m];rintro e w' ⟨rfl,rfl⟩);go_ret2;exact⟨by rw[aU.out];rfl,Qi⟩
       .go_wp2_with (first|(go_at_call 76;refine G.out.mono ?_;rintro e f ⟨rfl,I⟩;have N:=Zx I (ZA wr (.cells #[.string x.nm,.slice (some ad) L x.c,x.mo] 71) rfl);have M:=bk3 N;have a:=Zx I (Zz g (.cells #[.string x.nm,.slice (some ad) L x.c,x.mo] 71));have K:=bk2 a;have aB:=via H (via (ZB wr (.cells #[.string x.nm,.slice (some ad) L x.c,x.mo] 71)) I))|(at_builtin;refine C0 _ rfl _ _ 28 rfl f.heap.size 3 i0 (.int .i64 0) 1 8 underlying28 B cG cH cI rfl Qc _ _ _ rfl (aQ.out f) ad L x.c (x.co.map (Value.int .i64)) rfl ?c0 ?c1 ?c2 ?c3 ?c4 ?c5 ?_));case c0=>rw[B3,bB.out,p1]
        case c1=>
         intro j u hu;rw[k2]at hu;obtain⟨y,hy,rfl⟩:=n2.1 hu;obtain⟨b',o',e,-,bY⟩:=((bJ.out.below (via (ZB wr (.cells #[.string x.nm,.slice (some ad) L x.c,x.mo] 71)) I)).below (ZB f (.cells #[x.mo] 3))) j y hy;cases e;have e:Addr.add ⟨b',o',none⟩ j=⟨b',o'+j,none⟩:=by unfold Addr.add;split<;>simp_all
         rw[e];simpa using bY 0 _ rfl
        case c2=>intro u hu;obtain⟨y,-,rfl⟩:=b3.1 hu;rfl
        case c3=>unfold maxLen;omega
        case c4=>omega
        case c5=>simp
        intro v4 w4 aI bL _;obtain⟨A4,c4,rfl⟩:=ZV aI;have R:QB f w4:=ZX (ZB f _) bL fun b e=>by cases e;exact r3 _
        have aY:=A' (l:=x.mo::x.co) aI;have bN:(x.mo::x.co).length=1+L:=by simp only[L'];rw[bB.out];omega
        have aE:=i' aY;have aC:=i' bN;clear aI bL aY bN;have aK:=i' (by have t:=IP _ (x.mo::x.co) c4 (fun n=>!dC n 20) w4 (by rw[aC.out];omega) aE.out (fun y _ W hW=>IQ y W);rw[bO.out,aC.out]at t;exact t);have O0:=Zx R a;have O1:=Zx R N;have aL:=via aB R;have K:=bk2 O0;have M:=bk3 O1;clear a N aB G;go_wp2_with (go_at_call 64;refine aK.out.mono ?_;rintro e w6 ⟨rfl,Y⟩);have a:=Zx Y O0;have N:=Zx Y O1;have aM:=via aL Y;clear K M O0 O1 aL Y aK;have K:=bk2 a;have M:=bk3 N;have cD:=ZE N;refine v8 w 18 Qb Qb aM ?_;intro aG aF;simp only[sT,p',sA,B9];repeat (go_big_quiet_step (first|(go_at_call 46;with_reducible exact Grew.call (mA _ _ aW.out))|(go_at_call 25;with_reducible exact Zd (hP _ _ _))))
        refine Zyh ?_;intro wb h F Z;clear aG aF;have P0:=Zx h a;clear a N K M aM h;have Q:=i' U.out.symm;have m:=Q.out;by_cases O:E=0
        .subst O;go_wp2_with (go_at_call 29;refine(z' _ _ _ _ _).mono ?_;rw[m];rintro e w' ⟨rfl,rfl⟩);go_roundw;case rel=>exact⟨k+1,Qa,Qj,(fun j hj=>by
          by_cases aP:j=k;·rw[aP,J.out]
          .exact C.out j Qa),Zz P0 _,via F (ZB _ _)⟩
         case measure=>exact Qv
        .have bK : (E != 0) = true := by simpa using O
         have aU:=i' (show V=((k:Int),E)by rw[aT.out,lJ (dX z es) 0 k (by simp[dX];rw[X.out];exact aH) C.out (by rw[J.out];exact O),J.out];simp);go_wp2_with (go_at_call 29;refine(z' _ _ _ _ _).mono ?_;rw[m];rintro e w' ⟨rfl,rfl⟩);go_ret2;exact⟨by rw[aU.out];rfl,Qi⟩
      .obtain rfl:d=k:=Qa
       have cF:=i' (show V=(0,0)by rw[aT.out,Q' (dX z es) 0 fun i B=>C.out i (by simp[dX]at B;rw[X.out]at B;exact B)]);go_wp2;go_ret2;exact⟨by rw[cF.out];rfl,H⟩
 .have cK : (S != 0) = true := by simpa using bD
  have aS:=i' (show V=(0,S)by rw[hv.out,Zc9 bD]);have m:=Q.out;go_wp2_with (go_at_call 29;refine(hY _ _ _).mono ?_;rw[m];rintro e w' ⟨rfl,rfl⟩);go_ret2;exact⟨by rw[aS.out];rfl,Qi⟩
def fF(m h:Option Addr)(p j q a:Nat)(ps:List Pa)(es:List En)(w:World)(hB:BookAt w m p ps h j es)(hF:FewB ps es)(z:ps.length=q)(y:es.length=a):Calls prog 22 #[.agg #[.slice m q p,.slice h a j]] w (Qt w ((ZY ps es).2)):=by have D:=i' (T0 m h p j q a ps es (w.alloc (.cells #[.slice m q p,.slice h a j] 25)) (hB.below (ZB _ _)) hF z y);go_enter func22,ntmps22;go_wp2_with (go_at_call 49;refine D.out.mono ?_;rintro e b ⟨rfl,u⟩);go_ret;exact⟨rfl,via (ZB _ _) u⟩
def bU(ps:List Pa)(es:List En)(k a:Int):Int:=Z8 [(ZY ps es).2,tA k a]
def AQ(y q:Option Addr)(z u D a:Nat)(ps:List Pa)(es:List En)(k b:Int)(w:World)(hB:BookAt w y z ps q u es)(hF:FewB ps es)(p:ps.length=D)(m:es.length=a):Calls prog 34 #[.agg #[.slice y D z,.slice q a u],.agg #[k,b]] w (Qt w (bU ps es k b)):=by
 unfold bU;have N:=i' fun W (U:QB w W)=>fF y q z u D a ps es W (hB.below U) hF p m;obtain⟨E,O⟩:=Qu ((ZY ps es).2);rw[O]at N |-;clear hB hF p m O;go_enter func34,ntmps34;go_wp2;refine e9 ?_;intro L h;have F:QB w L:=by rw[h];go_grown
 have R:L.heap[w.heap.size]?=some (.cells #[.slice y D z,.slice q a u] 25):=by rw[h];exact Qs
 have S:L.heap[w.heap.size+1]?=some (.cells #[k,b] 53):=by rw[h];exact Qs
 have V:=bk2 R;have X:=bk2 S;clear h;refine v8 w 4 Qb Qb F ?_;intro H j;simp only[sT,p',sA,B9];repeat (go_big_quiet_step (first
  |(go_at_call 22;with_reducible exact Grew.call (N.out _ (j.out _)))|(go_at_call 47;with_reducible exact Grew.call (qB _ _ _))))
 refine Zyh ?_;intro Y G J I;clear H j;go_wp2_with (go_at_call 29;refine(hY _ _ _).mono ?_;rintro e c ⟨rfl,rfl⟩);go_ret;exact⟨rfl,Qi⟩
def Z5(ps:List Pa)(k ag:Int):List Int:=ps.map fun p=>if k=0 then p.a0 else if ag<=p.a0 then 1 else 0
def T2{ps:List Pa} {k ag:Int} {j:Nat} {p:Pa} (h:ps[j]?=some p):Z5 (ps.take (j+1)) k ag=Z5 (ps.take j) k ag++[if k=0 then p.a0 else if ag<=p.a0 then 1 else 0]:=by unfold Z5;rw[r4,h];simp
def AS(t Q:Option Addr)(pc W H en:Nat)(ps:List Pa)(k ag:Int)(w:World)(r:At 5 Pa.cs w t ps)(n:ps.length=H)(hp:H<=1000):Calls prog 36 #[.agg #[.slice t H pc,.slice Q en W],.agg #[k,ag]] w fun e B=>(∃A c,e=.returned (.slice A H c)/\B.ownsRow w.heap.size 3 1 (.slice A H c) H ((Z5 ps k ag).map (Value.int .i64)))/\QB w B:=by
 have K:=i' r;have L:=i' n;obtain⟨l,g,S,U,V⟩:=x0 info3;clear r n;go_enter func36,ntmps36;go_wp2;go_loopw [5,11] (fun v i wr=>∃j:Nat,j<=H/\i=.int .i64 j/\Hid (wr.ownsRow (w.heap.size+2) 3 1 v j ((Z5 (ps.take j) k ag).map (Value.int .i64)))/\wr.heap[w.heap.size+1]?=some (.cells #[k,ag] 53)/\QB w wr)(fun _ i _=>H-(intOf i).toNat);case atStart=>exact⟨0,e6 _,rfl,i' (hG _ _ _ _),Qs,Qi⟩
 case round=>
  obtain⟨j,hj,rfl,F,d,G⟩:=hrel;obtain⟨C,c5,rfl⟩:=ZV F.out;have D1:=bk2 d;have aG:=ZE d;by_cases P:j<H
  .have aF:(j:Int)<(H:Int):=Qa
   obtain⟨p,R⟩:∃p,ps[j]?=some p:=⟨_,h' (by rw[L.out];exact P)⟩;obtain⟨b,o,rfl,aE,X⟩:=K.out.below G j p R;have y0:=X 0 _ rfl;have y1:=X 1 _ rfl;have y2:=X 2 _ rfl;have y3:=X 3 _ rfl;have y4:=X 4 _ rfl;simp only[sW]at y0;have D:=i' (T2 (k:=k) (ag:=ag) R);have z:=i' (ZL F.out (ZB wr (.cells #[.string p.nm,p.a0,p.a1,p.c0,p.c1] 69)));have I:=i' (via G (ZB wr (.cells #[.string p.nm,p.a0,p.a1,p.c0,p.c1] 69)));have f:=Zz d (.cells #[.string p.nm,p.a0,p.a1,p.c0,p.c1] 69);clear X R F;by_cases J:k=0
   .have M:(k==0)=true:=by simp[J]
    have m:=i' (show Z5 (ps.take (j+1)) k ag=Z5 (ps.take j) k ag++[p.a0]by rw[D.out,Zc9 J]);replace D:=m;clear m J;go_wp2_with (at_builtin;refine C0 _ rfl _ _ 28 rfl (w.heap.size+2) 3 l (.int .i64 0) 1 8 underlying28 g S U V rfl Qc _ _ _ rfl (z.out.alloc _) ⟨wr.heap.size+1,0,none⟩ 1 1 [.int .i64 (p.a0)] rfl rfl ?c1 ?c2 ?c3 ?c4 ?c5 ?_);try (case c1=>exact G1 _ [.int .i64 (p.a0)] _ Qd)
    case c2=>first|rfl|(intro u N;simp at N;subst N;rfl)
    case c3=>first|omega|(unfold maxLen;omega)
    case c4=>omega
    case c5=>have:=G.size;first|omega|(simp;omega)
    intro a O h q _;have y:=i' (show O.ownsRow (w.heap.size+2) 3 1 a (j+1) ((Z5 (ps.take (j+1)) k ag).map (Value.int .i64))from by rw[D.out,b4];exact h);have Y:=b5 q (Zz f _) (X1 z.out Qa);have E:QB w O:=ZX (via I.out (ZB _ _)) q fun b e=>by have:=(z.out.lt b e).1;omega
    clear h q;go_wp2;go_roundw;case rel=>exact⟨j+1,Qa,Qj,y.out,Y,E⟩
    case measure=>exact Qv
   .have M:(k==0)=false:=by simpa using J
    by_cases s:ag<=p.a0
    .have m:=i' (show Z5 (ps.take (j+1)) k ag=Z5 (ps.take j) k ag++[1]by rw[D.out,q' J,Zc9 s]);replace D:=m;clear m J;go_wp2_with (at_builtin;refine C0 _ rfl _ _ 28 rfl (w.heap.size+2) 3 l (.int .i64 0) 1 8 underlying28 g S U V rfl Qc _ _ _ rfl (z.out.alloc _) ⟨wr.heap.size+1,0,none⟩ 1 1 [.int .i64 (1)] rfl rfl ?c1 ?c2 ?c3 ?c4 ?c5 ?_);try (case c1=>exact G1 _ [.int .i64 (1)] _ Qd)
     case c2=>first|rfl|(intro u N;simp at N;subst N;rfl)
     case c3=>first|omega|(unfold maxLen;omega)
     case c4=>omega
     case c5=>have:=G.size;first|omega|(simp;omega)
     intro a O h q _;have y:=i' (show O.ownsRow (w.heap.size+2) 3 1 a (j+1) ((Z5 (ps.take (j+1)) k ag).map (Value.int .i64))from by rw[D.out,b4];exact h);have Y:=b5 q (Zz f _) (X1 z.out Qa);have E:QB w O:=ZX (via I.out (ZB _ _)) q fun b e=>by have:=(z.out.lt b e).1;omega
     clear h q;go_wp2;go_roundw;case rel=>exact⟨j+1,Qa,Qj,y.out,Y,E⟩
     case measure=>exact Qv
    .have m:=i' (show Z5 (ps.take (j+1)) k ag=Z5 (ps.take j) k ag++[0]by rw[D.out,q' J,q' s]);replace D:=m;clear m J;go_wp2_with (at_builtin;refine C0 _ rfl _ _ 28 rfl (w.heap.size+2) 3 l (.int .i64 0) 1 8 underlying28 g S U V rfl Qc _ _ _ rfl (z.out.alloc _) ⟨wr.heap.size+1,0,none⟩ 1 1 [.int .i64 (0)] rfl rfl ?c1 ?c2 ?c3 ?c4 ?c5 ?_);try (case c1=>exact G1 _ [.int .i64 (0)] _ Qd)
     case c2=>first|rfl|(intro u N;simp at N;subst N;rfl)
     case c3=>first|omega|(unfold maxLen;omega)
     case c4=>omega
     case c5=>have:=G.size;first|omega|(simp;omega)
     intro a O h q _;have y:=i' (show O.ownsRow (w.heap.size+2) 3 1 a (j+1) ((Z5 (ps.take (j+1)) k ag).map (Value.int .i64))from by rw[D.out,b4];exact h);have Y:=b5 q (Zz f _) (X1 z.out Qa);have E:QB w O:=ZX (via I.out (ZB _ _)) q fun b e=>by have:=(z.out.lt b e).1;omega
     clear h q;go_wp2;go_roundw;case rel=>exact⟨j+1,Qa,Qj,y.out,Y,E⟩
     case measure=>exact Qv
  .obtain rfl:H=j:=Qa
   have Z:=i' (show ps.take H=ps by rw[<-L.out,x1]);go_wp2;go_ret;exact⟨⟨C,c5,rfl,F2 (by have:=F.out;rwa [Z.out]at this) (T1 _ 2)⟩,G⟩
end Go.Proofs
namespace Go.Proofs
open Go.RowKit
variable {n lo hi k ag:Int} {ps:List Pa} {es:List En}
def aW{es:List Int}:Z8 es=0↔∀e∈es,e=0:=by induction es with
 |nil=>simp[Z8]|cons e es ih=>
  unfold Z8;by_cases h:e=0;·rw[Zc9 h,ih];simp[h]
  .rw[q' h];simp[h]
def cH{b:Bool} (h:n≠0):unl b n=0↔b=true:=by unfold unl;cases b<;>simp[h]
def dB:hN n lo hi=true↔lo<=n/\n<=hi:=by simp[hN]
def GF:∀(l:List Int)(k:Nat),fM l k=none->∀i,i<l.length->l.getD i 0=0
 |[],_,_,i,h=>by simp at h|e::l,k,h,i,hi=>by
  unfold fM at h;split at h;·rename_i j;cases i with
   |zero=>simpa using j|succ i=>simpa using GF l (k+1) h i (by simpa using hi)
  .cases h
def GG:∀(l:List Int)(k:Nat) {i:Nat} {e:Int},fM l k=some (i,e)->e≠0
 |[],_,_,_,h=>by cases h|e::l,k,i,e',h=>by
  unfold fM at h;split at h;·exact GG l (k+1) h
  .rename_i j;cases h;exact j
def nI{m:Int}:eE lo hi m=0↔0<=lo/\lo<=m/\0<=hi/\hi<=m/\lo<=hi:=by unfold eE;rw[aW];simp only[ZAW,ZBg,Zyi,dH,dI];rw[cH Qc,cH Qc,aY,dB,dB,z1];omega
structure BookR (ps:List Pa)(es:List En):Prop where
 n1:1<=ps.length
 n5:ps.length<=5
 e8:es.length<=8
 part:∀i p,ps[i]?=some p->c6 p.nm.data.toList=true/\(ps.take i).any (fun q=>eqS q.nm p.nm)=false/\(0<=p.a0/\p.a0<=400/\0<=p.a1/\p.a1<=400/\p.a0<=p.a1)/\(0<=p.c0/\p.c0<=20/\0<=p.c1/\p.c1<=20/\p.c0<=p.c1)
 ent:∀i x,es[i]?=some x->c6 x.nm.data.toList=true/\(es.take i).any (fun y=>eqS y.nm x.nm)=false/\x.co.length=ps.length/\∀n∈x.mo::x.co,n.natAbs<=20
def hM:(ZY ps es).2=0↔BookR ps es:=by
 have H:cQ ps.length=0↔1<=ps.length/\ps.length<=5:=by unfold cQ;rw[aW];simp only[ZAW,ZBg,Zyi,dH,dI];rw[cH Qc,cH Qc,z1,z1];omega
 have G:∀i p,cR ps i p=0↔c6 p.nm.data.toList=true/\(ps.take i).any (fun q=>eqS q.nm p.nm)=false/\(0<=p.a0/\p.a0<=400/\0<=p.a1/\p.a1<=400/\p.a0<=p.a1)/\(0<=p.c0/\p.c0<=20/\0<=p.c1/\p.c1<=20/\p.c0<=p.c1):=fun i p=>by unfold cR;rw[aW];simp only[ZAW,ZBg,Zyi,dH,dI];rw[cH Qc,cH Qc,nI,nI,gN]
 have F:∀i x,cS ps.length es i x=0↔c6 x.nm.data.toList=true/\(es.take i).any (fun y=>eqS y.nm x.nm)=false/\x.co.length=ps.length/\∀n∈x.mo::x.co,n.natAbs<=20:=fun i x=>by
  unfold cS;rw[aW];simp only[ZAW,ZBg,Zyi,dH,dI];rw[cH Qc,cH Qc,cH Qc,cH Qc,gN,gN,z1];have u:∀n:Int,dC n 20=true↔n.natAbs<=20:=fun n=>by unfold dC;rw[dB];omega
  have:(x.mo::x.co).any (fun n=>!dC n 20)=false↔∀n∈x.mo::x.co,n.natAbs<=20:=by
   rw[bM];constructor;·intro h n E;have:=h n E;rw[<-u];simpa using this
   .intro h n E;have:=(u n).2 (h n E);simp[this]
  rw[this];simp
 unfold ZY;constructor
 .intro h;split at h;·rename_i m;exact absurd h m
  .rename_i m;have m:=H.1 (by simpa using m);split at h;·rename_i k e z;exact absurd h (GG _ _ z)
   .rename_i z;split at h;·cases h
    .rename_i I;split at h;·rename_i k e D;exact absurd h (GG _ _ D)
     .rename_i D;refine⟨m.1,m.2,Qa,fun i p hi=>?_,fun i x hi=>?_⟩;·rw[<-G,<-gJ hi];exact GF _ _ z i (by simpa [cW] using (M0.1 hi).1)
      .rw[<-F,<-L2 hi];exact GF _ _ D i (by simpa [dX] using (M0.1 hi).1)
 .intro h;rw[q' (by simp[H.2 ⟨h.n1,h.n5⟩])];rw[Q' (cW ps) 0 fun i hi=>by
   have j:i<ps.length:=by simpa [cW] using hi
   rw[gJ (h' j),G];exact h.part i _ (h' j)];simp only;rw[q' (by have:=h.e8;omega)];rw[Q' (dX ps.length es) 0 fun i hi=>by
   have j:i<es.length:=by simpa [dX] using hi
   rw[L2 (h' j),F];exact h.ent i _ (h' j)]
def BookR.right(h:BookR ps es):RightE es ps.length:=by refine⟨h.e8,fun x q=>?_⟩;obtain⟨i,hi⟩:=hT.1 q;obtain⟨-,-,m,j⟩:=h.ent i x hi;exact⟨m,fun n p=>j n (A5 _ p),j _ Qd⟩
def BookR.worths(h:BookR ps es)(k ag:Int):ZN 400 (Z5 ps k ag):=by
 intro n j;obtain⟨p,m,rfl⟩:=b3.1 j;obtain⟨i,hi⟩:=hT.1 m;obtain⟨-,-,q,-⟩:=h.part i p hi;split;·omega
 .split<;>decide
def T3:bU ps es k ag=0↔BookR ps es/\tA k ag=0:=by unfold bU;rw[aW];simp only[ZAW,ZBg,Zyi,dH,dI];rw[hM]
def AT:tA k ag=0↔(k=0∨k=1)/\0<=ag/\ag<=400:=by unfold tA;rw[aW];simp only[ZAW,ZBg,Zyi,dH,dI];rw[cH Qc,cH Qc,dB,dB];omega
end Go.Proofs
