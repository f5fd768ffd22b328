import Derived.Test.YtphenbjioenjfaaGreatDoorMg3
import Derived.Handy
import Derived.WalkLawsBesides
import Derived.WalkSpells
import Derived.Lib.ConvBytes
import Derived.Lib.Hide
import Derived.StillTail
import Derived.BigQuiet
import Derived.RangeFuncKeeps
import Derived.Deep.OwnRows
import Derived.Laws.AppendOwnNone
import Derived.Deep.AppendLies
theorem Qu.{u}{α:Sort u}(a:α):∃x,a=x:=⟨a,rfl⟩
theorem Qs{P:Prop}(h:P:=by (repeat (first|assumption|(refine ZA _ _ ?_;(simp;done))|refine ZD ?_|refine Zz ?_ _|refine ZB ?_ (by simp<;>omega) _))):P:=h
theorem Qr{P:Prop}(h:P:=by trivial):P:=h
theorem Qq{P:Prop}(h:P:=by unfold maxLen;omega):P:=h
theorem Qm{P:Prop}(h:P:=by decide+kernel):P:=h
theorem Qj{P:Prop}(h:P:=by go_num):P:=h
theorem Qi{P:Prop}(h:P:=by go_grown):P:=h
theorem Qf{P:Prop}(h:P:=by simp<;>omega):P:=h
set_option linter.unusedVariables false
set_option linter.unusedSimpArgs false
set_option maxRecDepth 100000
set_option maxHeartbeats 16000000
namespace Go
theorem ZyB:type_of% @Array.getElem?_modify:=@Array.getElem?_modify
theorem ZyT:type_of% @RowKit.Below.heap_setCell:=@RowKit.Below.heap_setCell
theorem ZyU:type_of% @RowKit.Below.refl:=@RowKit.Below.refl
theorem Zy1:type_of% @Bool.false_or:=@Bool.false_or
theorem Zy9:type_of% @Bool.true_or:=@Bool.true_or
theorem Zzm:type_of% @Int.le_refl:=@Int.le_refl
theorem Zzq:type_of% @Int.mul_comm:=@Int.mul_comm
theorem Zzr:type_of% @Int.mul_ediv_cancel':=@Int.mul_ediv_cancel'
theorem Zzs:type_of% @Int.mul_ediv_cancel_left:=@Int.mul_ediv_cancel_left
theorem Zzz:type_of% @Int.natAbs_mul:=@Int.natAbs_mul
theorem ZzE:type_of% @IntWalk.i64_in:=@IntWalk.i64_in
theorem ZzG:type_of% @Lib.hid:=@Lib.hid
theorem ZzK:type_of% @List.any_append:=@List.any_append
theorem ZzL:type_of% @List.any_eq_false:=@List.any_eq_false
theorem ZzM:type_of% @List.any_eq_true:=@List.any_eq_true
theorem ZzN:type_of% @List.append_assoc:=@List.append_assoc
theorem ZzP:type_of% @List.append_toArray:=@List.append_toArray
theorem ZzR:type_of% @List.cons_append:=@List.cons_append
theorem ZzY:type_of% @List.drop_eq_getElem_cons:=@List.drop_eq_getElem_cons
theorem ZzZ:type_of% @List.drop_succ_cons:=@List.drop_succ_cons
theorem Zz0:type_of% @List.drop_zero:=@List.drop_zero
theorem Zz2:type_of% @List.eq_nil_of_length_eq_zero:=@List.eq_nil_of_length_eq_zero
theorem Zz7:type_of% @List.filter_cons:=@List.filter_cons
theorem ZAb:type_of% @List.flatMap_cons:=@List.flatMap_cons
theorem ZAe:type_of% @List.getD_cons_succ:=@List.getD_cons_succ
theorem ZAf:type_of% @List.getD_cons_zero:=@List.getD_cons_zero
theorem ZAg:type_of% @List.getD_eq_getElem?_getD:=@List.getD_eq_getElem?_getD
theorem ZAh:type_of% @List.getElem?_append_left:=@List.getElem?_append_left
theorem ZAi:type_of% @List.getElem?_append_right:=@List.getElem?_append_right
theorem ZAj:type_of% @List.getElem?_cons_succ:=@List.getElem?_cons_succ
theorem ZAk:type_of% @List.getElem?_cons_zero:=@List.getElem?_cons_zero
theorem ZAl:type_of% @List.getElem?_drop:=@List.getElem?_drop
theorem ZAm:type_of% @List.getElem?_eq_getElem:=@List.getElem?_eq_getElem
theorem ZAp:type_of% @List.getElem?_eq_some_iff:=@List.getElem?_eq_some_iff
theorem ZAq:type_of% @List.getElem?_map:=@List.getElem?_map
theorem ZAt:type_of% @List.getElem?_replicate:=@List.getElem?_replicate
theorem ZAw:type_of% @List.getElem?_take:=@List.getElem?_take
theorem ZAy:type_of% @List.getElem_mem:=@List.getElem_mem
theorem ZAz:type_of% @List.getElem_of_mem:=@List.getElem_of_mem
theorem ZAB:type_of% @List.length_cons:=@List.length_cons
theorem ZAD:type_of% @List.length_map:=@List.length_map
theorem ZAH:type_of% @List.length_take:=@List.length_take
theorem ZAL:type_of% @List.map_append:=@List.map_append
theorem ZAP:type_of% @List.map_map:=@List.map_map
theorem ZAV:type_of% @List.mem_append_left:=@List.mem_append_left
theorem ZAY:type_of% @List.mem_cons_of_mem:=@List.mem_cons_of_mem
theorem ZA2:type_of% @List.mem_iff_getElem?:=@List.mem_iff_getElem?
theorem ZA3:type_of% @List.mem_map:=@List.mem_map
theorem ZA8:type_of% @List.mem_range:=@List.mem_range
theorem ZBb:type_of% @List.nil_append:=@List.nil_append
theorem ZBe:type_of% @List.not_mem_nil:=@List.not_mem_nil
theorem ZBh:type_of% @List.range_succ:=@List.range_succ
theorem ZBi:type_of% @List.replicate_succ:=@List.replicate_succ
theorem ZBk:type_of% @List.set_append_right:=@List.set_append_right
theorem ZBl:type_of% @List.size_toArray:=@List.size_toArray
theorem ZBm:type_of% @List.sum_cons:=@List.sum_cons
theorem ZBn:type_of% @List.take_add_one:=@List.take_add_one
theorem ZBo:type_of% @List.take_length:=@List.take_length
theorem ZBp:type_of% @List.take_of_length_le:=@List.take_of_length_le
theorem ZBr:type_of% @List.take_succ_cons:=@List.take_succ_cons
theorem ZBs:type_of% @List.take_succ_eq_append_getElem:=@List.take_succ_eq_append_getElem
theorem ZBt:type_of% @List.take_zero:=@List.take_zero
theorem ZBw:type_of% @Nat.add_mul:=@Nat.add_mul
theorem ZBx:type_of% @Nat.add_sub_cancel:=@Nat.add_sub_cancel
theorem ZBK:type_of% @Nat.lt_or_ge:=@Nat.lt_or_ge
theorem ZBN:type_of% @Nat.min_eq_left:=@Nat.min_eq_left
theorem ZBP:type_of% @Nat.mul_le_mul:=@Nat.mul_le_mul
theorem ZBQ:type_of% @Nat.mul_le_mul_right:=@Nat.mul_le_mul_right
theorem ZBR:type_of% @Nat.mul_one:=@Nat.mul_one
theorem ZBV:type_of% @Nat.pow_le_pow_right:=@Nat.pow_le_pow_right
theorem ZBZ:type_of% @Nat.succ_mul:=@Nat.succ_mul
theorem ZB0:type_of% @Nat.two_pow_pos:=@Nat.two_pow_pos
end Go
namespace Go.Proofs
open Tryz
open Go.RowKit
variable {l:List UInt8} {k:Nat}
theorem ZbG{k:IntKind} {a b:Int} (h:a=b):Ending.returned (.int k a)=.returned (.int k b):=by rw[h]
theorem ZrH(n b:Int)(hb:0<b)(h:n.tmod b<0):n.tdiv b-1=n / b:=by
 have j:=Int.mul_tdiv_add_tmod n b;have p:-b<n.tmod b:=by have:=Int.lt_tmod_of_pos n hb;omega
 rw[eq_comm];have:n=b*(n.tdiv b-1)+(n.tmod b+b):=by rw[Int.mul_sub];omega
 rw[this,Int.mul_add_ediv_left _ _ Qa,Int.ediv_eq_zero_of_lt Qa Qa];rw[<-this];omega
theorem ZrI(n b:Int)(hb:0<b)(h:0<=n.tmod b):n.tdiv b=n / b:=by
 have j:=Int.mul_tdiv_add_tmod n b;have p:=Int.tmod_lt_of_pos n hb;rw[eq_comm];have:n=b*(n.tdiv b)+(n.tmod b):=Qa
 rw[this,Int.mul_add_ediv_left _ _ Qa,Int.ediv_eq_zero_of_lt Qa Qa];rw[<-this];omega
def ZfI(c:Int):Bool:=(decide (97<=c)&&decide (c<=122))||(decide (65<=c)&&decide (c<=90))
def ZbQ(i:Nat)(c:Int):Bool:=ZfI c||(decide (i≠0)&&(decide (c=45)||(decide (48<=c)&&decide (c<=57))))
def Zdd(l:List UInt8):Bool:=(List.range l.length).all fun i=>ZbQ i ((l.getD i 0).toNat:Int)
def Zau(l:List UInt8):Bool:=decide (1<=l.length)&&decide (l.length<=12)&&Zdd l
theorem ZlL(l:List UInt8)(h:∀j,j<l.length->ZbQ j ((l.getD j 0).toNat:Int)=true):Zdd l=true:=by unfold Zdd;rw[ZzJ];intro j p;exact h j (ZA8.1 p)
theorem ZrJ(l:List UInt8)(j:Nat)(p:j<l.length)(h:ZbQ j ((l.getD j 0).toNat:Int)=false):Zdd l=false:=by unfold Zdd;rw[List.all_eq_false];exact⟨j,ZA8.2 p,by rw[h];decide⟩
theorem Ziz{c:UInt8} (h:Hid (∀j,j<k->ZbQ j ((l.getD j 0).toNat:Int)=true))(q:Hid (l.getD k 0=c))(p:ZbQ k (c.toNat:Int)=true):Hid (∀j,j<k+1->ZbQ j ((l.getD j 0).toNat:Int)=true):=by
 intro j u;by_cases e:j=k;·subst e;rw[q.out];exact p
 ·exact h.out j Qa
theorem ZiA{n:Nat} {c:UInt8} (p:Hid (l.length=n))(hk:k<n)(j:Hid (l.getD k 0=c))(h:ZbQ k (c.toNat:Int)=false):Zau l=false:=by unfold Zau;rw[ZrJ l k (by rw[p.out];exact hk) (by rw[j.out];exact h)];simp
theorem ZiB(k:Nat)(c:Int)(h:(97<=c/\c<=122)∨(65<=c/\c<=90)∨(k≠0/\(c=45∨(48<=c/\c<=57)))):ZbQ k c=true:=by unfold ZbQ ZfI;simp only[Zy5,ZyW,decide_eq_true_eq];omega
theorem ZiC(k:Nat)(c:Int)(h:¬((97<=c/\c<=122)∨(65<=c/\c<=90)∨(k≠0/\(c=45∨(48<=c/\c<=57))))):ZbQ k c=false:=by rw[<-Bool.not_eq_true];unfold ZbQ ZfI;simp only[Zy5,ZyW,decide_eq_true_eq];omega
theorem ZrK(l:List UInt8)(n:Nat)(j:l.length=n)(h:Zdd l=true):Zau l=(!l.isEmpty&&decide ((n:Int)<=12)):=by unfold Zau;rw[h,Bool.and_true,<-j];cases l<;>simp;omega
theorem ZcS{a b:Bool} (h:a=b):Ending.returned a=.returned b:=by rw[h]
abbrev _root_.QB(w x:World):Prop:=Below w.heap.size w x
abbrev _root_.Qt(w:World)(v:Value)(e:Ending)(x:World):Prop:=e=.returned v/\Below w.heap.size w x
theorem ZfJ(s:ByteArray)(w:World)(hs:s.size<=9223372036854775807):Calls prog 55 #[.string s] w (Qt w (Zau s.data.toList)):=by
  have q:=fun W:World=>Lib.run_convert_string_bytes (P:=prog) W 9 146 5 s underlying9 underlying146 underlying5;have H:Hid (QB w (Lib.bytesWorld w 5 s)):=⟨rfl,rfl,rfl,by rw[Lib.bytesWorld_size];omega,fun k I=>Lib.bytesWorld_at_old w 5 s k I⟩;have h:Hid (s.data.toList.length=s.size):=by simp[Hid]
  go_enter func55,ntmps55;go_wp2;clear q;go_loop [9] (fun i=>∃k:Nat,k<=s.size/\i=.int .i64 k/\Hid (∀j,j<k->ZbQ j ((s.data.toList.getD j 0).toNat:Int)=true))(fun i=>s.size-(intOf i).toNat);case atStart=>exact⟨0,ZB2 _,rfl,fun j F=>Qa⟩
  case round=>
    obtain⟨k,I,rfl,z⟩:=hrel;by_cases y:k<s.size
    · obtain⟨c,D⟩:∃c:UInt8,s.data.toList.getD k 0=c:=⟨_,rfl⟩;have p:=Lib.bytesWorld_cell w 5 s k y;rw[D]at p;have u:=ZzG D;clear D;have J:(0:Int)<=(c.toNat:Int):=Qa
      go_wp2;all_goals first
        |(exfalso;simp at*;omega)
        | (go_round;case rel=>exact⟨k+1,Qa,Qj,Ziz z u (ZiB _ _ (by simp at*;omega))⟩
           case measure=>simp[intOf];omega)|(go_ret;exact⟨ZcS (ZiA (k:=k) h y u (ZiC _ _ (by simp at*;omega))).symm,H.out⟩)
    · have G:k=s.size:=Qa
      subst G;by_cases L:s.toList=[];all_goals go_wp2;go_ret;refine⟨ZcS ?_,H.out⟩;have E:Zdd s.data.toList=true:=ZlL _ (fun j F=>z.out j (by rw[h.out]at F;exact F));rw[ZrK _ _ h.out E,<-ByteArray.toList_eq]<;>simp[L]
end Go.Proofs
namespace Go.Proofs
open Go.RowKit
variable {w:World} {P:Program} {f:FuncId} {args:Array Value} {v:Value} {a:Act} {id:Nat} {Q:Exit->Act->World->Prop} {l:List Oper}
section
variable {P:Program} {ops:Array Oper} {md:Region.Mode} {C:World->Prop}
def ZfK(P:Program)(md:Region.Mode)(ops:Array Oper)(C:World->Prop)(n:Nat)(L:Array Bool->Act->Prop):Nat->Array Bool->Act->Prop|0,listed,a=>L listed a|f+1,listed,a=>Region.ready md ops listed≠[]/\∀i∈Region.ready md ops listed,i<n/\qOp P ops C i (ZfK P md ops C n L f (listed.setIfInBounds i true)) a
theorem ZlM{n g:Nat} {L:Array Bool->Act->Prop} {Q':Exit->Act->World->Prop} (hL:∀j a w,C w->L j a->wpAny P md ops Q' g j a w):∀(f:Nat)(j:Array Bool)(a:Act)(w:World),C w->ZfK P md ops C n L f j a->wpAny P md ops Q' (f+g) j a w|0,j,a,w,hw,h=>by rw[ZB1];exact hL _ _ _ hw h|f+1,j,a,w,hw,h=>by rw[show f+1+g=(f+g)+1 by omega];exact⟨fun y=>absurd y h.1,fun i hi=>wpOp_of_qOp hw (fun q w' p u=>ZlM hL f _ q w' p u) (h.2 i hi).2⟩
theorem ZrL{n i:Nat} {R:Oper} {v:Value} {L:Array Bool->Act->Prop} (hi:ops[i]?=some R)(G:∀(j:Nat)(o:Oper) cs b,ops[j]?=some o->o.op≠.select cs b)(hs:Region.sinkB md ops n=true)(hc:Region.chainB md ops n=true)(hn:n<ops.size)(U:i<n)(I:∀p a,L p a->∀j∈Region.ready md ops p,n<=j):∀(f:Nat)(p:Array Bool)(a:Act),HeadInv md ops n p->(∀j O,ops[j]?=some O->j≠i->p.getD j true=false->(∀e∈O.after,Region.binds md e=true->e.on≠i)->R.apart ops O=true)->i∈Region.ready md ops p->YieldsIn P ops C R v a->ZfK P md ops C n L f (p.setIfInBounds i true) (a.put R.dst v)->ZfK P md ops C n L (f+1) p a:=by intro f;induction f with
 |zero=>
  intro p a E _ D hy H;refine⟨fun h=>(by rw[h]at D;cases D),fun j J=>?_⟩;have z:j<n:=by
   rcases ZBK j n with h|h;·exact h
   ·exact absurd J (tail_waits hs hc hn E _ i rfl U (mem_ready.1 D).1 j h)
  refine⟨z,?_⟩;by_cases q:j=i;·subst q;exact hy.qOp hi H
  ·have:=I _ _ H j (ready_mono J q);omega|succ f ih=>
  intro p a E u D hy H;refine⟨fun h=>(by rw[h]at D;cases D),fun j J=>?_⟩;have z:j<n:=by
   rcases ZBK j n with h|h;·exact h
   ·exact absurd J (tail_waits hs hc hn E _ i rfl U (mem_ready.1 D).1 j h)
  refine⟨z,?_⟩;by_cases q:j=i;·subst q;exact hy.qOp hi H
  ·have h1:=(H.2 j (ready_mono J q)).2;obtain⟨F,O,N,S⟩:=mem_ready.1 J;have X:∀e∈O.after,Region.binds md e=true->e.on≠i:=fun e he hb aA=>by have h1:=S e he hb;have h0:=(mem_ready.1 D).1;rw[aA,getD_both h0]at h1;cases h1
   have h2:=qOp_put N (u j O N q F X) (fun cs b=>G i R cs b hi) (fun cs b=>G j O cs b N) hy h1;have y:∀k Z,ops[k]?=some Z->k≠i->(p.setIfInBounds j true).getD k true=false->(∀e∈Z.after,Region.binds md e=true->e.on≠i)->R.apart ops Z=true:=fun k Z hk aB Y aC=>by
    refine u k Z hk aB ?_ aC;by_cases V:j=k;·subst V;exact F
    ·rw[getD_set_ne true V]at Y;exact Y
   refine qOp_mono (fun a' h3=>ih (p.setIfInBounds j true) a' (E.set J z) y (ready_mono D (Ne.symm q)) h3.1 ?_) h2;rw[Array.setIfInBounds_comm _ _ q];exact h3.2
theorem ZlN{n g:Nat} {E:Act->Prop} (q:Region.noSelect ops=true)(hs:Region.sinkB md ops n=true)(H:Region.chainB md ops n=true)(I:n<ops.size):∀(l:List Oper)(k:Nat)(p:Array Bool)(a:Act),(∀j,j<l.length->l[j]?=ops[k+j]?)->k+l.length=n->HeadInv md ops n p->Region.lexHead md ops g l.length k p=true->wpQuiet P ops C E l a->ZfK P md ops C n (fun p a=>Region.seqB md ops g n p=true/\E a) l.length p a
 |[],k,p,a,_,hk,_,hB,h=>by
  have:k=n:=by simpa using hk
  subst this;exact⟨by simpa [Region.lexHead] using hB,h⟩|o::l,k,p,a,hl,hk,inv,hB,h=>by
  have D:ops[k]?=some o:=by simpa using (hl 0 Qd).symm
  simp only[ZAB,Region.lexHead,ZyW]at hB;obtain⟨⟨O,N⟩,F⟩:=hB;have u:k<n:=by simp only[ZAB]at hk;omega
  have y:k∈Region.ready md ops p:=by simpa using O
  have G:qOp P ops C k (wpQuiet P ops C E l) a:=by unfold qOp;simp only[D];exact h
  obtain⟨v,R,J⟩:=yieldsIn_of_qOp D G;exact ZrL D (Region.noSelect_spec q) hs H I u (fun z S L=>seqB_ready L.1) l.length p a inv (Region.free_spec D N) y R (ZlN q hs H I l (k+1) _ _ (fun j U=>by have:=hl (j+1) Qk;simpa [ZBu,ZBv 1 j] using this) (by simp only[ZAB]at hk;omega) (inv.set y u) F J)
theorem ZrM{id:Nat} {Q:Exit->Act->World->Prop} {a:Act} {w:World} {l:List Oper} (n:Nat)(hm:P.follows .mixedOrders=true)(hB:Region.lexTailB .any l.toArray n=true)(O:C {w with drawn:=w.drawn+1})(h:wpQuiet P l.toArray C (fun E=>∀w',C w'->wpList P l.toArray Q (l.drop n) E w') (l.take n) a):(Code.region id l.toArray true).wp P Q a w:=by
 simp only[Region.lexTailB,ZyW,decide_eq_true_eq]at hB;obtain⟨⟨⟨⟨z,N⟩,U⟩,R⟩,y⟩:=hB;have S:n<l.length:=by simpa using N
 have p:(l.take n).length=n:=Qk
 have u:(l.drop n).length=l.toArray.size-n:=Qd
 have D:HeadInv .any l.toArray n (Array.replicate l.toArray.size false):=⟨Qd,fun j X _ L=>(by rw[getD_replicate_false]at L;cases L),fun t _ V=>getD_in (by simpa using V) (getD_replicate_false _ _)⟩;have H:=ZlN (C:=C) (P:=P) (md:=.any) (g:=l.toArray.size-n) z U R N (l.take n) 0 _ a (fun j J=>by
  have F:j<n:=by rw[p]at J;exact J
  simp[F]) (by simpa using p) D (by rw[p];exact y) h;refine wp_region_any hm ?_;have:=ZlM (Q':=Q) (g:=l.toArray.size-n) (fun q E w' G I=>by have:=wpAny_of_seq (md:=.any) (Q':=Q) (l.drop n) n q E w' (fun j=>by simp[ZAl]) (by rw[u];exact I.1) (I.2 w' G);rwa [u]at this) _ _ _ _ O H;rw[p,show n+(l.toArray.size-n)=l.toArray.size by omega]at this;exact this
end
structure Grew (w:World) where
 val:World
 ok:QB w val
instance (w:World):Nonempty (Grew w):=⟨⟨w,ZyU _ w⟩⟩
theorem Grew.cell(x:Grew w)(b o:Nat)(h:b<w.heap.size):x.val.cell? ⟨b,o,none⟩=w.cell? ⟨b,o,none⟩:=x.ok.cell (p:=⟨b,o,none⟩) h
theorem Grew.call{x:Grew w} (h:Calls P f args x.val fun e w'=>e=.returned v/\Below x.val.heap.size x.val w'):Calls P f args x.val fun e j=>e=.returned v/\∃y:Grew w,j=y.val:=h.mono fun _ w' ⟨q,p⟩=>⟨q,⟨w',x.ok.trans (p.mono x.ok.size)⟩,rfl⟩
theorem Zd{x:Grew w} (h:Calls P f args x.val fun e w'=>e=.returned v/\x.val=w'):Calls P f args x.val fun e j=>e=.returned v/\∃y:Grew w,j=y.val:=h.mono fun _ _ ⟨q,p⟩=>⟨q,x,p.symm⟩
theorem via{a b:World} (h:QB w a)(j:QB a b):QB w b:=h.trans (j.mono h.size)
theorem ZlO{a:World} (h:QB w a)(o:Obj):QB w (a.alloc o):=h.alloc h.size o
theorem ZC(w:World)(o:Obj):QB w (w.alloc o):=(ZyU _ _).alloc (ZBF _) o
theorem ZrN(n:Nat)(hm:P.follows .mixedOrders=true)(hB:Region.lexTailB .any l.toArray n=true)(h:wpQuiet P l.toArray (fun w'=>∃x:Grew w,w'=x.val) (fun j=>∀x:Grew w,wpList P l.toArray Q (l.drop n) j x.val) (l.take n) a):(Code.region id l.toArray true).wp P Q a w:=by
 refine ZrM (C:=fun w'=>∃x:Grew w,w'=x.val) n hm hB ⟨⟨_,(ZyU _ w).drew⟩,rfl⟩ ?_;have e:(fun j=>∀w',(∃x:Grew w,w'=x.val)->wpList P l.toArray Q (l.drop n) j w')=(fun j=>∀x:Grew w,wpList P l.toArray Q (l.drop n) j x.val):=by funext j;exact propext ⟨fun h x=>h _ ⟨x,rfl⟩,fun h w' ⟨x,p⟩=>p▸h x⟩
 rw[e];exact h
theorem ZrO(hm:P.follows .mixedOrders=true)(hB:Region.lexB .any l.toArray=true)(h:wpQuiet P l.toArray (fun w'=>∃x:Grew w,w'=x.val) (fun j=>∀x:Grew w,Q .normal j x.val) l a):(Code.region id l.toArray true).wp P Q a w:=by
 refine wp_region_quiet (C:=fun w'=>∃x:Grew w,w'=x.val) hm hB ⟨⟨_,(ZyU _ w).drew⟩,rfl⟩ ?_;have e:(fun j=>∀w',(∃x:Grew w,w'=x.val)->Q .normal j w')=(fun j=>∀x:Grew w,Q .normal j x.val):=by funext j;exact propext ⟨fun h x=>h _ ⟨x,rfl⟩,fun h w' ⟨x,p⟩=>p▸h x⟩
 simp only[e];exact h
theorem ZaK(w0:World)(n:Nat)(hm:P.follows .mixedOrders=true)(hB:Region.lexTailB .any l.toArray n=true)(hw:QB w0 w)(h:(∀(x:Grew w)(b o:Nat),b<w.heap.size->x.val.cell? ⟨b,o,none⟩=w.cell? ⟨b,o,none⟩)->Hid (∀x:Grew w,QB w0 x.val)->wpQuiet P l.toArray (fun w'=>∃x:Grew w,w'=x.val) (fun p=>∀j,QB w j->QB w0 j->w.heap.size<=j.heap.size->wpList P l.toArray Q (l.drop n) p j) (l.take n) a):(Code.region id l.toArray true).wp P Q a w:=by
 refine ZrN n hm hB ?_;have e:(fun p=>∀j,QB w j->QB w0 j->w.heap.size<=j.heap.size->wpList P l.toArray Q (l.drop n) p j)=(fun p=>∀x:Grew w,wpList P l.toArray Q (l.drop n) p x.val):=by funext p;exact propext ⟨fun h x=>h x.val x.ok (via hw x.ok) x.ok.size,fun h j q _ _=>h ⟨j,q⟩⟩
 rw[<-e];exact h (fun x=>x.cell) (fun x=>via hw x.ok)
theorem Zbr(w0:World)(hm:P.follows .mixedOrders=true)(hB:Region.lexB .any l.toArray=true)(hw:QB w0 w)(h:(∀(x:Grew w)(b o:Nat),b<w.heap.size->x.val.cell? ⟨b,o,none⟩=w.cell? ⟨b,o,none⟩)->Hid (∀x:Grew w,QB w0 x.val)->wpQuiet P l.toArray (fun w'=>∃x:Grew w,w'=x.val) (fun p=>∀j,QB w j->QB w0 j->w.heap.size<=j.heap.size->Q .normal p j) l a):(Code.region id l.toArray true).wp P Q a w:=by
 refine ZrO hm hB ?_;have e:(fun p=>∀j,QB w j->QB w0 j->w.heap.size<=j.heap.size->Q .normal p j)=(fun p=>∀x:Grew w,Q .normal p x.val):=by funext p;exact propext ⟨fun h x=>h x.val x.ok (via hw x.ok) x.ok.size,fun h j q _ _=>h ⟨j,q⟩⟩
 rw[<-e];exact h (fun x=>x.cell) (fun x=>via hw x.ok)
end Go.Proofs
namespace Go.Proofs
open Tryz
open Go.RowKit
def Z1(n lo hi:Int):Bool:=decide (lo<=n)&&decide (n<=hi)
theorem Zco(n lo hi:Int)(w:World):Calls prog 48 #[n,lo,hi] w fun e w'=>e=.returned (Z1 n lo hi)/\w=w':=by unfold Z1;by_cases h:lo<=n<;>by_cases j:n<=hi;all_goals go_enter func48,ntmps48;go_wp2;go_ret;simp_all
theorem Zde(n lo hi:Int)(w:World):Calls prog 64 #[n,lo,hi] w fun e w'=>e=.returned (Z1 n lo hi)/\w=w':=by unfold Z1;by_cases h:lo<=n<;>by_cases j:n<=hi;all_goals go_enter func64,ntmps64;go_wp2;go_ret;simp_all
def unl(b:Bool)(n:Int):Int:=if b then 0 else n
theorem ZbH(b:Bool)(n:Int)(w:World):Calls prog 47 #[b,n] w fun e w'=>e=.returned (unl b n)/\w=w':=by cases b;all_goals go_enter func47,ntmps47;go_wp2;go_ret;simp_all[unl]
def Z4:List Int->Int|[]=>0|e::l=>if e=0 then Z4 l else e
theorem ZlP(es:List Int):∀k,(∀j,j<k->es.getD j 0=0)->Z4 es=Z4 (es.drop k):=by intro k;induction k generalizing es with|zero=>intro _;simp|succ k ih=>intro h;cases es with|nil=>simp|cons e l=>
   have p:e=0:=by simpa using h 0 Qa
   simp only[Z4,p,if_true,ZzZ];exact ih l (fun j q=>by simpa using h (j+1) Qa)
theorem ZrP(es:List Int)(k:Nat)(hk:k<es.length)(h:∀j,j<k->es.getD j 0=0)(hne:es.getD k 0≠0):Z4 es=es.getD k 0:=by
 rw[ZlP es k h,ZzY hk];have:es.getD k 0=es[k]:=by simp[hk]
 simp only[Z4];rw[if_neg (by rw[<-this];exact hne),this]
theorem ZrQ(es:List Int)(h:∀j,j<es.length->es.getD j 0=0):Z4 es=0:=by rw[ZlP es es.length h];simp[Z4]
theorem ZlQ(es:List Int)(b:Nat)(w:World)(J:es.length<=100)(F:∀j,j<es.length->w.cell? ⟨b,j,none⟩=some (.int .i64 (es.getD j 0))):Calls prog 45 #[.slice (some b) es.length es.length] w fun e w'=>e=.returned (Z4 es)/\w=w':=by
 have y:=ZzG F;clear F;go_enter func45,ntmps45;go_wp2;go_loop [7] (fun i=>∃k:Nat,k<=es.length/\i=.int .i64 k/\Hid (∀j,j<k->es.getD j 0=0))(fun i=>es.length-(intOf i).toNat);case atStart=>exact⟨0,ZB2 _,rfl,fun j G=>Qa⟩
 case round=>
  obtain⟨k,I,rfl,E⟩:=hrel;by_cases q:k<es.length
  ·have z:=y.out k q;obtain⟨v,D⟩:=Qu (es.getD k 0);rw[D]at z;have h:=ZzG D;clear D;by_cases p:v=0
   ·have H : (v != 0) = false := by simp [p]
    have u:=ZzG p;clear p;go_wp2;go_round;case rel=>exact⟨k+1,Qa,Qj,fun j G=>by
     by_cases e:j=k;·subst e;rw[h.out];exact u.out
     ·exact E.out j Qa⟩
    case measure=>simp[intOf];omega
   ·have H : (v != 0) = true := by simp [p]
    go_wp2;go_ret;exact⟨ZbG (by rw[ZrP es k q E.out (by rw[h.out];exact p)];exact h.out.symm),rfl⟩
  ·go_wp2;go_ret;exact⟨ZbG (ZrQ es (fun j G=>E.out j Qa)).symm,rfl⟩
theorem Zea(a b:Int)(w:World):Calls prog 45 #[.slice (some w.heap.size) 2 2] (w.alloc (.cells #[a,b] 38)) fun e w'=>e=.returned (Z4 [a,b])/\w.alloc (.cells #[a,b] 38)=w':=ZlQ [a,b] w.heap.size _ Qd (fun j h=>by rw[World.cell?_alloc_at _ _ _ _ rfl];match j,h with|0,_=>rfl|1,_=>rfl)
theorem Zcy(a b c d:Int)(w:World):Calls prog 45 #[.slice (some w.heap.size) 4 4] (w.alloc (.cells #[a,b,c,d] 38)) fun e w'=>e=.returned (Z4 [a,b,c,d])/\w.alloc (.cells #[a,b,c,d] 38)=w':=ZlQ [a,b,c,d] w.heap.size _ Qd (fun j h=>by rw[World.cell?_alloc_at _ _ _ _ rfl];match j,h with|0,_=>rfl|1,_=>rfl|2,_=>rfl|3,_=>rfl)
end Go.Proofs
namespace Go.Proofs
open Go.RowKit
def At{α:Type} (sz:Nat)(cs:α->List Value)(w:World)(A:Option Addr)(l:List α):Prop:=∀k x,l[k]?=some x->∃b o,A=some ⟨b,o,none⟩/\b<w.heap.size/\∀j v,(cs x)[j]?=some v->w.cell? ⟨b,o+k*sz+j,none⟩=some v
theorem At.below{α:Type} {sz:Nat} {cs:α->List Value} {w w':World} {A:Option Addr} {l:List α} (h:At sz cs w A l)(hb:QB w w'):At sz cs w' A l:=by intro k x D;obtain⟨b,o,u,q,y⟩:=h k x D;exact⟨b,o,u,ZBJ q hb.size,fun j v z=>(hb.cell (p:=⟨b,o+k*sz+j,none⟩) q).trans (y j v z)⟩
def eqS(a b:ByteArray):Bool:=a.toList==b.toList
variable {b:Nat} {o:Obj} {w:World} {cs:Array Value} {t:TypeId} {f:Nat×Nat} {v0 v1 v2 v3 v4:Value}
theorem Zx{W j:World} (hb:QB W j)(h:W.heap[b]?=some o):j.heap[b]?=some o:=(hb.block b (lt_of_block h)).trans h
theorem Zz(h:w.heap[b]?=some o)(o':Obj):(w.alloc o').heap[b]?=some o:=(RowKit.Below.heap_alloc w o' b (lt_of_block h)).trans h
theorem ZD(h:w.heap[b]?=some o):w.drew.heap[b]?=some o:=h
theorem ZA(w:World)(o:Obj) {n:Nat} (h:n=w.heap.size):(w.alloc o).heap[n]?=some o:=by subst h;exact heap_alloc_new w o
theorem ZB(h:w.heap[b]?=some o) {p:Addr} (hne:b≠p.block)(u:Value):(w.setCell p u).heap[b]?=some o:=(ZyT w p u b hne).trans h
theorem Za0(h:w.heap[b]?=some (.cells cs t f))(o:Nat):w.cell? ⟨b,o,none⟩=cs[o]?:=by simp[World.cell?,h]
theorem Za1(h:w.heap[b]?=some (.cells cs t))(o:Nat):w.frozen? ⟨b,o,none⟩=false:=by simp[World.frozen?,h]
theorem ZL{o:Nat} {j:Array Value} (h:w.heap[b]?=some (.cells cs t f))(u:Value)(y:cs.setIfInBounds o u=j):(w.setCell ⟨b,o,none⟩ u).heap[b]?=some (.cells j t f):=by
 subst y;have p:=lt_of_block h;have q:w.heap[b]=.cells cs t f:=by simpa [Zyw p] using h
 show (w.heap.modify b _)[b]?=_;rw[Zyw (by simpa using p),Array.getElem_modify_self,q];rfl
theorem ZI(h:w.heap[b]?=some o):b<w.heap.size:=lt_of_block h
theorem bk1(h:w.heap[b]?=some (.cells #[v0] t)):w.cell? b=some v0/\w.frozen? ⟨b,0,none⟩=false/\b<w.heap.size:=⟨Za0 h 0,Za1 h 0,ZI h⟩
theorem bk2(h:w.heap[b]?=some (.cells #[v0,v1] t)):w.cell? b=some v0/\w.cell? ⟨b,1,none⟩=some v1/\w.frozen? ⟨b,0,none⟩=false/\w.frozen? ⟨b,1,none⟩=false/\b<w.heap.size:=⟨Za0 h 0,Za0 h 1,Za1 h 0,Za1 h 1,ZI h⟩
theorem bk3(h:w.heap[b]?=some (.cells #[v0,v1,v2] t)):w.cell? b=some v0/\w.cell? ⟨b,1,none⟩=some v1/\w.cell? ⟨b,2,none⟩=some v2/\w.frozen? ⟨b,0,none⟩=false/\w.frozen? ⟨b,1,none⟩=false/\w.frozen? ⟨b,2,none⟩=false/\b<w.heap.size:=⟨Za0 h 0,Za0 h 1,Za0 h 2,Za1 h 0,Za1 h 1,Za1 h 2,ZI h⟩
theorem bk4(h:w.heap[b]?=some (.cells #[v0,v1,v2,v3] t)):w.cell? b=some v0/\w.cell? ⟨b,1,none⟩=some v1/\w.cell? ⟨b,2,none⟩=some v2/\w.cell? ⟨b,3,none⟩=some v3/\w.frozen? ⟨b,0,none⟩=false/\w.frozen? ⟨b,1,none⟩=false/\w.frozen? ⟨b,2,none⟩=false/\w.frozen? ⟨b,3,none⟩=false/\b<w.heap.size:=⟨Za0 h 0,Za0 h 1,Za0 h 2,Za0 h 3,Za1 h 0,Za1 h 1,Za1 h 2,Za1 h 3,ZI h⟩
theorem bk5(h:w.heap[b]?=some (.cells #[v0,v1,v2,v3,v4] t)):w.cell? b=some v0/\w.cell? ⟨b,1,none⟩=some v1/\w.cell? ⟨b,2,none⟩=some v2/\w.cell? ⟨b,3,none⟩=some v3/\w.cell? ⟨b,4,none⟩=some v4/\w.frozen? ⟨b,0,none⟩=false/\w.frozen? ⟨b,1,none⟩=false/\w.frozen? ⟨b,2,none⟩=false/\w.frozen? ⟨b,3,none⟩=false/\w.frozen? ⟨b,4,none⟩=false/\b<w.heap.size:=⟨Za0 h 0,Za0 h 1,Za0 h 2,Za0 h 3,Za0 h 4,Za1 h 0,Za1 h 1,Za1 h 2,Za1 h 3,Za1 h 4,ZI h⟩
theorem bk7{j p:Value} (h:w.heap[b]?=some (.cells #[v0,v1,v2,v3,v4,j,p] t)):w.cell? b=some v0/\w.cell? ⟨b,1,none⟩=some v1/\w.cell? ⟨b,2,none⟩=some v2/\w.cell? ⟨b,3,none⟩=some v3/\w.cell? ⟨b,4,none⟩=some v4/\w.cell? ⟨b,5,none⟩=some j/\w.cell? ⟨b,6,none⟩=some p/\w.frozen? ⟨b,0,none⟩=false/\w.frozen? ⟨b,1,none⟩=false/\w.frozen? ⟨b,2,none⟩=false/\w.frozen? ⟨b,3,none⟩=false/\w.frozen? ⟨b,4,none⟩=false/\w.frozen? ⟨b,5,none⟩=false/\w.frozen? ⟨b,6,none⟩=false/\b<w.heap.size:=⟨Za0 h 0,Za0 h 1,Za0 h 2,Za0 h 3,Za0 h 4,Za0 h 5,Za0 h 6,Za1 h 0,Za1 h 1,Za1 h 2,Za1 h 3,Za1 h 4,Za1 h 5,Za1 h 6,ZI h⟩
theorem Zbw{P:Program} {c:Code} {Q:Exit->Act->World->Prop} {a:Act} {w:World} (h:∀W,W=w->c.wp P Q a W):c.wp P Q a w:=h w rfl
variable {T:TypeId} {W:World} {B k:Nat} {l:List Int}
def ZaL(l:List Int):Array Value:=(l.map (Value.int .i64)).toArray
def ZM(T:TypeId)(W:World)(B:Nat)(l:List Int):Prop:=W.heap[B]?=some (.cells (ZaL l) T)
theorem ZrR(l:List Int):(ZaL l).size=l.length:=by simp[ZaL]
theorem ZiD(l:List Int)(k:Nat):(ZaL l)[k]?=l[k]?.map (Value.int .i64):=by simp[ZaL]
theorem ZgS(l:List Int)(k:Nat)(x:Int):(ZaL l).setIfInBounds k (.int .i64 x)=ZaL (l.set k x):=by simp[ZaL]
theorem ZM.load(h:ZM T W B l) {x:Int} (hx:l[k]?=some x):W.cell? ⟨B,k,none⟩=some (.int .i64 x):=by unfold ZM at h;unfold World.cell?;rw[h];simp[ZiD,hx]
theorem ZM.loadD(h:ZM T W B l)(hk:k<l.length):W.cell? ⟨B,k,none⟩=some (.int .i64 (l.getD k 0)):=by rw[ZAg,ZAm hk];exact h.load (ZAm hk)
theorem ZM.frozen(h:ZM T W B l)(k:Nat):W.frozen? ⟨B,k,none⟩=false:=by unfold ZM at h;unfold World.frozen?;rw[h];simp
theorem ZM.size(h:ZM T W B l):B<W.heap.size:=(Zyy.1 h).1
theorem ZM.store(h:ZM T W B l)(k:Nat)(x:Int):ZM T (W.setCell ⟨B,k,none⟩ (.int .i64 x)) B (l.set k x):=by have j:=h.size;unfold ZM at h |-;simp only[World.setCell];rw[ZyB,if_pos rfl,h];simp[ZgS]
theorem ZM.other(h:ZM T W B l)(p:Addr)(v:Value)(hp:p.block≠B):ZM T (W.setCell p v) B l:=by unfold ZM at h |-;rw[<-h];exact ZyT W p v B (fun e=>hp e.symm)
theorem ZM.alloc(h:ZM T W B l)(o:Obj):ZM T (W.alloc o) B l:=by have:=h.size;unfold ZM at h |-;exact(RowKit.Below.heap_alloc W o B this).trans h
theorem ZM.below{j:World} (h:ZM T W B l)(hb:QB W j):ZM T j B l:=by have:=h.size;unfold ZM at h |-;exact(hb.block B this).trans h
theorem ZM.new(W:World)(l:List Int):ZM T (W.alloc (.cells (ZaL l) T)) W.heap.size l:=ZA W _ rfl
theorem ZrS(n:Nat):madeCells #[.int .i64 0] n=ZaL (List.replicate n 0):=by
 apply Zyq;intro j;rw[ZiD];by_cases h:j<n;·simp[madeCells,h,Nat.mod_one]
 ·simp[madeCells,h]
end Go.Proofs
namespace Go.Proofs
variable {b:Nat}
def cmb:Nat->Nat->Nat->List (List Nat)|_,_,0=>[[]]|_,0,_+1=>[]|a,len+1,k+1=>(cmb (a+1) len k).map (a::·)++cmb (a+1) len (k+1)
def ZdE:Nat->List Nat->Option (List Nat)|_,[]=>none|m,x::t=>match ZdE (m+1) t with|some t'=>some (x::t')|none=>if x=m then none else some (List.range' (x+1) (t.length+1))
theorem ZgT:∀(a j k:Nat),j<k->cmb a j k=[]|_,_,0,h=>by omega|_,0,_+1,_=>rfl|a,j+1,k+1,h=>by simp only[cmb];rw[ZgT (a+1) j k Qa,ZgT (a+1) j (k+1) Qa];rfl
theorem ZiE:∀(a j k:Nat),k<=j->(cmb a j k)[0]?=some (List.range' a k)|_,_,0,_=>by simp[cmb]|_,0,k+1,h=>by omega|a,j+1,k+1,h=>by have:=ZiE (a+1) j k Qa;simp only[cmb];rw[ZAh (by rw[ZAD];exact(ZAp.1 this).1),ZAq,this];rfl
theorem ZeN:∀(a j k:Nat),∀l∈cmb a j k,l.length=k
 |_,_,0,l,h=>by simp[cmb]at h;simp[h]|_,0,k+1,l,h=>by cases h|a,j+1,k+1,l,h=>by
  simp only[cmb,ZAU,ZA3]at h;rcases h with⟨t,p,rfl⟩|h;·rw[ZAB,ZeN (a+1) j k t p]
  ·exact ZeN (a+1) j (k+1) l h
theorem ZiF:∀(a j k m:Nat),m+k=a+j->∀i l,(cmb a j k)[i]?=some l->ZdE m l=(cmb a j k)[i+1]?
 |a,j,0,m,_,i,l,h=>by simp only[cmb]at h |-;cases i with|zero=>simp at h;subst h;rfl|succ i=>simp at h
 |_,0,k+1,m,_,i,l,h=>by simp[cmb]at h|a,j+1,k+1,m,hm,i,l,h=>by
  have u:=ZeN (a+1) j k;simp only[cmb]at h |-;by_cases hi:i<(cmb (a+1) j k).length;·rw[ZAh (by rw[ZAD];exact hi),ZAq]at h;obtain⟨t,E,rfl⟩:=ZB7.1 h;have G:=ZiF (a+1) j k (m+1) Qa i t E;have z:t.length=k:=u t (ZA5 E);unfold ZdE;rw[G];cases y:(cmb (a+1) j k)[i+1]? with
   |some t'=>rw[ZAh (by rw[ZAD];exact(ZAp.1 y).1),ZAq,y];rfl|none=>
    have q:=ZAo.1 y;rw[ZAi (by rw[ZAD];exact q),ZAD,show i+1-(cmb (a+1) j k).length=0 by omega];by_cases p:a=m;·rw[if_pos p,ZgT (a+1) j (k+1) Qa];rfl
    ·have F:k+1<=j:=by
      rcases ZBK j k with D|D;·rw[ZgT (a+1) j k D]at hi;cases hi
      ·omega
     rw[if_neg p,ZiE (a+1) j (k+1) F,z]
  ·rw[ZAi (by rw[ZAD];omega),ZAD]at h;rw[ZAi (by rw[ZAD];omega),ZAD,show i+1-(cmb (a+1) j k).length=(i-(cmb (a+1) j k).length)+1 by omega];exact ZiF (a+1) j (k+1) m Qa _ l h
def Asc(a b:Nat):List Nat->Prop|[]=>True|x::t=>a<=x/\x<b/\Asc (x+1) b t
theorem Asc.mono:∀{l:List Nat} {a a':Nat},a'<=a->Asc a b l->Asc a' b l|[],_,_,_,_=>trivial|_::_,_,_,h,hl=>⟨ZBG h hl.1,hl.2⟩
theorem Asc.lt:∀{l:List Nat} {a:Nat},Asc a b l->∀x∈l,a<=x/\x<b:=by intro l;induction l<;>grind[Asc]
theorem Zeb:∀(a j k:Nat),∀l∈cmb a j k,Asc a (a+j) l
 |_,_,0,l,h=>by simp[cmb]at h;subst h;trivial|_,0,k+1,l,h=>by cases h|a,j+1,k+1,l,h=>by
  simp only[cmb,ZAU,ZA3]at h;rcases h with⟨t,p,rfl⟩|h;·have:=Zeb (a+1) j k t p;rw[show a+1+j=a+(j+1)by omega]at this;exact⟨ZBF _,Qa,this⟩
  ·have:=Zeb (a+1) j (k+1) l h;rw[show a+1+j=a+(j+1)by omega]at this;exact this.mono Qa
theorem ZfL:∀(a j:Nat)(l:List Nat),Asc a (a+j) l->l∈cmb a j l.length
 |a,j,[],_=>by cases j<;>simp[cmb]|a,0,x::t,h=>by have:=h.1;have:=h.2.1;omega|a,j+1,x::t,h=>by
  rw[ZAB];simp only[cmb,ZAU,ZA3];by_cases p:x=a;·subst p;exact .inl ⟨t,ZfL (x+1) j t (by have:=h.2.2;rwa [show x+(j+1)=x+1+j by omega]at this),rfl⟩
  ·right;have:=ZfL (a+1) j (x::t) ⟨by have:=h.1;omega,by have:=h.2.1;omega,by have:=h.2.2;rwa [show a+(j+1)=a+1+j by omega]at this⟩;rwa [ZAB]at this
theorem ZiG:∀(m:Nat)(l:List Nat),(∀i x,l[i]?=some x->x=m+i)->ZdE m l=none|_,[],_=>rfl|m,x::t,h=>by unfold ZdE;rw[ZiG (m+1) t (fun i y j=>by have:=h (i+1) y j;omega)];exact if_pos (h 0 x rfl)
theorem ZlR:∀(m:Nat)(l:List Nat) (j x:Nat),l[j]?=some x->x≠m+j->(∀i y,j<i->l[i]?=some y->y=m+i)->ZdE m l=some (l.take j++List.range' (x+1) (l.length-j))|_,[],j,x,h,_,_=>by simp at h|m,y::t,0,x,h,hx,hl=>by simp at h;subst h;unfold ZdE;rw[ZiG (m+1) t (fun i z p=>by have:=hl (i+1) z Qa p;omega)];simp only;rw[if_neg (by simpa using hx)];simp|m,y::t,j+1,x,h,hx,hl=>by unfold ZdE;rw[ZlR (m+1) t j x (by simpa using h) Qa (fun i z hi p=>by have:=hl (i+1) z Qa (by simpa using p);omega)];simp
def pop:Nat->Nat->Nat|0,_=>0|k+1,s=>pop k s+(s>>>k)%2
def ZaU(f:Nat->Nat->Int)(M:List Int)(row set:Nat):Nat->Int->Int->Int|0,acc,_=>acc|c+1,acc,sg=>if (set>>>c)%2=0 then ZaU f M row set c acc sg else ZaU f M row set c (if M.getD (set-2^c) 0=0 then acc else acc+sg*f row c*M.getD (set-2^c) 0) (-sg)
def Zcp(f:Nat->Nat->Int)(n:Nat)(M:List Int)(set:Nat):Int:=ZaU f M (pop n set-1) set n 0 1
def dpM(f:Nat->Nat->Int)(n:Nat):Nat->List Int|0=>[1]|s+1=>dpM f n s++[Zcp f n (dpM f n s) (s+1)]
def ZW(f:Nat->Nat->Int)(n:Nat):Int:=(dpM f n (2^n-1)).getD (2^n-1) 0
theorem Zdf(f:Nat->Nat->Int)(n:Nat):∀s,(dpM f n s).length=s+1|0=>rfl|s+1=>by simp[dpM,Zdf f n s]
theorem ZrT(m acc x:Int):(if m=0 then acc else acc+x*m)=acc+x*m:=by
 split;·rename_i h;rw[h];omega
 ·rfl
def minorD(f:Nat->Nat->Int)(M:List Int)(row set:Nat):Nat->Int->Int->Int|0,acc,_=>acc|c+1,acc,sg=>if (set>>>c)%2=0 then minorD f M row set c acc sg else minorD f M row set c (acc+sg*f row c*M.getD (set-2^c) 0) (-sg)
theorem ZiH(f:Nat->Nat->Int)(M:List Int)(row set:Nat):∀c acc h,ZaU f M row set c acc h=minorD f M row set c acc h|0,_,_=>rfl|c+1,acc,h=>by unfold ZaU minorD;rw[ZiH f M row set c,ZiH f M row set c,ZrT]
def dpN(f:Nat->Nat->Int)(n:Nat):Nat->List Int|0=>[1]|s+1=>dpN f n s++[minorD f (dpN f n s) (pop n (s+1)-1) (s+1) n 0 1]
theorem ZeO(f:Nat->Nat->Int)(n:Nat):∀s,dpM f n s=dpN f n s|0=>rfl|s+1=>by unfold dpM dpN Zcp;rw[ZeO f n s,ZiH]
def d2(f:Nat->Nat->Int)(i j:Nat):Int:=f 0 i*f 1 j-f 0 j*f 1 i
def d3(f:Nat->Nat->Int)(i j k:Nat):Int:=f 2 k*d2 f i j-f 2 j*d2 f i k+f 2 i*d2 f j k
def d4(f:Nat->Nat->Int)(i j k l:Nat):Int:=f 3 l*d3 f i j k-f 3 k*d3 f i j l+f 3 j*d3 f i k l-f 3 i*d3 f j k l
def d5(f:Nat->Nat->Int)(i j k l m:Nat):Int:=f 4 m*d4 f i j k l-f 4 l*d4 f i j k m+f 4 k*d4 f i j l m-f 4 j*d4 f i k l m+f 4 i*d4 f j k l m
theorem detP1(f:Nat->Nat->Int):ZW f 1=f 0 0:=by simp[ZW,ZeO,dpN,minorD,pop]
theorem detP2(f:Nat->Nat->Int):ZW f 2=d2 f 0 1:=by simp[ZW,ZeO,dpN,minorD,pop,d2];grind
theorem detP3(f:Nat->Nat->Int):ZW f 3=d3 f 0 1 2:=by simp[ZW,ZeO,dpN,minorD,pop,d3,d2];grind
theorem detP4(f:Nat->Nat->Int):ZW f 4=d4 f 0 1 2 3:=by simp[ZW,ZeO,dpN,minorD,pop,d4,d3,d2];grind
theorem ZfM(f:Nat->Nat->Int):ZW f 5=d5 f 0 1 2 3 4:=by simp[ZW,ZeO,dpN,minorD,pop,d5,d4,d3,d2];grind
def repl(f:Nat->Nat->Int)(b:Nat->Int)(c:Nat)(i j:Nat):Int:=if j=c then b i else f i j
theorem ZlS(f:Nat->Nat->Int)(b:Nat->Int):f 0 0*ZW (repl f b 0) 1=b 0*ZW f 1:=by simp[detP1,repl];grind
theorem ZlT(f:Nat->Nat->Int)(b:Nat->Int)(i:Nat)(hi:i<2):f i 0*ZW (repl f b 0) 2+f i 1*ZW (repl f b 1) 2=b i*ZW f 2:=by simp[detP2,repl,d2];rcases i with _|_|i<;>first|grind|omega
theorem ZlU(f:Nat->Nat->Int)(b:Nat->Int)(i:Nat)(hi:i<3):f i 0*ZW (repl f b 0) 3+f i 1*ZW (repl f b 1) 3+f i 2*ZW (repl f b 2) 3=b i*ZW f 3:=by simp[detP3,repl,d3,d2];rcases i with _|_|_|i<;>first|grind|omega
theorem ZlV(f:Nat->Nat->Int)(b:Nat->Int)(i:Nat)(hi:i<4):f i 0*ZW (repl f b 0) 4+f i 1*ZW (repl f b 1) 4+f i 2*ZW (repl f b 2) 4+f i 3*ZW (repl f b 3) 4=b i*ZW f 4:=by simp[detP4,repl,d4,d3,d2];rcases i with _|_|_|_|i<;>first|grind|omega
theorem ZlW(f:Nat->Nat->Int)(b:Nat->Int)(i:Nat)(hi:i<5):f i 0*ZW (repl f b 0) 5+f i 1*ZW (repl f b 1) 5+f i 2*ZW (repl f b 2) 5+f i 3*ZW (repl f b 3) 5+f i 4*ZW (repl f b 4) 5=b i*ZW f 5:=by simp[ZfM,repl,d5,d4,d3,d2];rcases i with _|_|_|_|_|i<;>first|grind|omega
abbrev Ex:=List Int×Int
def entR(r:List (List Int))(i j:Nat):Int:=(r.getD i []).getD j 0
def colF(r:List (List Int))(h:Option Nat)(i c:Nat):Int:=entR r i (if h=some c then r.length else c)
def ZY(r:List (List Int))(h:Option Nat):Int:=ZW (colF r h) r.length
def ZaM(d:Int):Int:=if d<0 then -1 else 1
def Za2(r:List (List Int)):Option (List Int×Int):=if ZY r none=0 then none else some ((List.range r.length).map fun i=>ZaM (ZY r none)*ZY r (some i),ZaM (ZY r none)*ZY r none)
def dotL:List Int->List Int->Int|a::x,b::y=>a*b+dotL x y|_,_=>0
def putsL:List Ex->List Int->Nat->Int|x::es,w::W,k=>w*x.1.getD k 0+putsL es W k|_,_,_=>0
def spentL:List Ex->List Int->Int|x::es,w::W=>w*x.2+spentL es W|_,_=>0
def gcdL(g:Nat):List Int->Nat|[]=>g|n::l=>gcdL (Nat.gcd g n.natAbs) l
def zerosL(np:Nat)(l:List Nat):List Nat:=l.filter (·<np)
def tightL(np:Nat)(l:List Nat):List Nat:=(l.filter (np<=·)).map (· - np)
def ZaI(n i:Nat):List Int:=(List.range n).map fun j=>if j=i then 1 else 0
def Zam(np:Nat)(es:List Ex)(z t:List Nat):List (List Int):=List.replicate (np+1) 1::(z.map (fun i=>ZaI (np+1) i)++t.map fun i=>(es.getD i default).1++[(es.getD i default).2])
def Za3(np:Nat)(es:List Ex)(z t:List Nat):Option (List Int×Int):=match Za2 (Zam np es z t)with|none=>none|some (l,den)=>if l.any (·<0)then none else if es.any (fun x=>!decide (dotL x.1 l<=x.2*den))then none else some (l.map (· / (gcdL 0 (den::l):Int)),den / (gcdL 0 (den::l):Int))
def Z7(es:List Ex)(t:List Nat)(k:Nat)(w:Int):List Int:=1::(t.map (fun i=>-((es.getD i default).1.getD k 0))++[w])
def proofRows(es:List Ex)(z t:List Nat):Nat->List Int->List (List Int)|_,[]=>[]|k,w::ws=>if k∈z then proofRows es z t (k+1) ws else Z7 es t k w::proofRows es z t (k+1) ws
def putW(l:List Int):Nat->List Nat->List Int->List Int|_,[],W=>W|k,i::t,W=>putW l (k+1) t (W.set i (l.getD (k+1) 0))
def Zce(es:List Ex)(den lev:Int)(W:List Int):Nat->List Int->Bool|_,[]=>true|k,w::ws=>decide (lev<=w*den+putsL es W k)&&Zce es den lev W (k+1) ws
structure Prf where
 den:Int
 lev:Int
 W:List Int deriving Inhabited
def Za6(es:List Ex)(ws:List Int)(z t:List Nat):Option Prf:=match Za2 (proofRows es z t 0 ws)with|none=>none|some (l,den)=>if (List.range t.length).any (fun k=>l.getD (k+1) 0<0)then none else let W:=putW l 0 t (List.replicate es.length 0);if Zce es den (l.getD 0 0) W 0 ws then let g:Int:=(gcdL 0 (den::l.getD 0 0::W):Int);some {den:=den / g,lev:=l.getD 0 0 / g,W:=W.map (· / g)} else none
def Zcf(np:Nat)(es:List Ex)(ws:List Int)(l:List Nat):Option (List Int×Int×Prf):=match Za6 es ws (zerosL np l) (tightL np l)with|none=>none|some p=>match Za3 np es (zerosL np l) (tightL np l)with|none=>none|some (m,d)=>some (m,d,p)
def solvedL(np:Nat) (es:List Ex) (ws:List Int):Option (List Int×Int×Prf):=(cmb 0 (np+es.length) (np-1)).findSome? (Zcf np es ws)
theorem ZrU(f:Nat->Nat->Int)(b:Nat->Int)(n:Nat)(h:n<=5)(i:Nat)(hi:i<n):((List.range n).map fun c=>f i c*ZW (repl f b c) n).sum=b i*ZW f n:=by
 rcases n with _|_|_|_|_|_|n;·omega
 ·obtain rfl:i=0:=Qa
  simpa using ZlS f b
 ·simpa [ZBh] using ZlT f b i hi
 ·simpa [ZBh,Int.add_assoc] using ZlU f b i hi
 ·simpa [ZBh,Int.add_assoc] using ZlV f b i hi
 ·simpa [ZBh,Int.add_assoc] using ZlW f b i hi
 ·omega
theorem ZrV(r:List (List Int)) (c:Nat):colF r (some c)=repl (colF r none) (fun i=>entR r i r.length) c:=by
 funext i j;unfold colF repl;by_cases h:j=c;·subst h;simp
 ·have:¬(c=j):=fun e=>h e.symm;simp[this,h]
theorem ZlX(row:List Int)(g:Nat->Int):∀(n:Nat)(row:List Int)(g:Nat->Int),n<=row.length->dotL row ((List.range n).map g)=((List.range n).map fun c=>row.getD c 0*g c).sum|0,row,g,_=>by cases row<;>simp[dotL]|n+1,[],g,h=>by simp at h|n+1,x::row,g,h=>by rw[List.range_succ_eq_map];simp only[ZAN,ZAP,dotL,ZBm,ZAf];have:=ZlX row g n row (g ∘ Nat.succ) (by simpa using h);rw[show g ∘ Nat.succ=g ∘ Nat.succ from rfl]at this;rw[this];rfl
theorem ZgU{r:List (List Int)} {l:List Int} {den:Int} (h:Za2 r=some (l,den))(z:r.length<=5)(D:∀row∈r,row.length=r.length+1):0<den/\l.length=r.length/\∀row∈r,dotL row l=row.getD r.length 0*den:=by
 unfold Za2 at h;split at h;·cases h
 rename_i E;obtain⟨rfl,rfl⟩:_/\_:=by simpa using h
 refine⟨?_,Qd,fun row j=>?_⟩;·unfold ZaM;split<;>omega
 ·obtain⟨i,hi,rfl⟩:=ZAz j;have p:=ZrU (colF r none) (fun i=>entR r i r.length) r.length z i hi;rw[ZlX [] (fun _=>0) _ _ _ (by rw[D _ j];omega)];have q:∀c,(colF r none i c)=r[i].getD c 0:=fun c=>by simp[colF,entR,ZAg,ZAm hi]
  have u:entR r i r.length=r[i].getD r.length 0:=by simp[entR,ZAg,ZAm hi]
  have y:∀c,ZW (repl (colF r none) (fun i=>entR r i r.length) c) r.length=ZY r (some c):=fun c=>by unfold ZY;rw[ZrV]
  simp only[q,u,y]at p;have:((List.range r.length).map fun c=>r[i].getD c 0*(ZaM (ZY r none)*ZY r (some c))).sum=ZaM (ZY r none)*((List.range r.length).map fun c=>r[i].getD c 0*ZY r (some c)).sum:=by generalize List.range r.length=L;induction L with
   |nil=>simp|cons x L ih=>simp only[ZAN,ZBm,ih];grind
  rw[this,p];show ZaM _*(_*ZY r none)=_;grind
end Go.Proofs
namespace Go.Proofs
open Tryz
open Go.RowKit
variable {w:World} {A:Option Addr}
def Zc(x:Int):List Value:=[.int .i64 x]
structure IR where
 A:Option Addr
 c:Nat
 l:List Int
def IR.cs(x:IR):List Value:=[.slice x.A x.l.length x.c]
def ZbR(w:World)(A:Option Addr)(xs:List IR):Prop:=At 1 IR.cs w A xs/\∀x∈xs,At 1 Zc w x.A x.l
theorem ZbR.below{w':World} {xs:List IR} (h:ZbR w A xs)(hb:QB w w'):ZbR w' A xs:=⟨h.1.below hb,fun x j=>(h.2 x j).below hb⟩
def Zcz(r:List (List Int))(q:Int)(i c:Nat):Int:=entR r i (if (c:Int)=q then r.length else c)
theorem ZbR.cell{xs:List IR} (h:ZbR w A xs) {i j:Nat} {x:IR} (hx:xs[i]?=some x)(u:j<x.l.length):∃b o p o2,A=some ⟨b,o,none⟩/\x.A=some ⟨p,o2,none⟩/\w.cell? ⟨b,o+i,none⟩=some (.slice (some ⟨p,o2,none⟩) x.l.length x.c)/\w.cell? ⟨p,o2+j,none⟩=some (.int .i64 (x.l.getD j 0))/\entR (xs.map IR.l) i j=x.l.getD j 0:=by
 obtain⟨b,o,y,-,z⟩:=h.1 i x hx;obtain⟨p,o2,hA2,-,q⟩:=h.2 x (ZA5 hx) j _ (ZAm u);refine⟨b,o,p,o2,y,hA2,?_,?_,?_⟩;·have:=z 0 _ rfl;rw[hA2]at this;simpa using this
 ·have:=q 0 _ rfl;rw[ZAg,ZAm u];simpa using this
 ·simp[entR,ZAg,hx]
theorem ZrW(A:Option Addr)(xs:List IR)(c n:Nat)(q:Int)(K N R row h:Nat)(w:World)(H:w.heap[K]?=some (.cells #[q] 3))(hN:w.heap[N]?=some (.cells #[n] 3))(hR:w.heap[R]?=some (.cells #[.slice A n c] 148))(p:ZbR w A xs)(J:xs.length=n)(I:∀x∈xs,x.l.length=n+1)(U:row<n)(S:h<n):Calls prog 118 #[row,h,.pointer (some K),.pointer (some N),.pointer (some R)] w fun e w'=>e=.returned (Zcz (xs.map IR.l) q row h)/\w=w':=by
 obtain⟨x,F⟩:∃x,xs[row]?=some x:=⟨_,ZAm Qa⟩;have y:=I x (ZA5 F);have u:(xs.map IR.l).length=n:=by simpa using J
 have Z:=bk1 H;have CN:=bk1 hN;have CR:=bk1 hR;have Y:(row:Int)<(n:Int):=Qa
 by_cases z:(h:Int)=q
 ·obtain⟨b,o,V,o2,rfl,hA2,G,X,D⟩:=p.cell F (j:=n) Qa;have E:Zcz (xs.map IR.l) q row h=x.l.getD n 0:=by unfold Zcz;rw[if_pos z,u,D]
  rw[E];rw[y]at G;have O:((h:Int)==q)=true:=by simp[z]
  have L:(n:Int)<((n+1:Nat):Int):=Qa
  generalize x.l.getD n 0=v at*;clear z E D F y I J p u H hN hR hA2;go_enter func118,ntmps118;go_wp2;go_ret;exact⟨rfl,rfl⟩
 ·obtain⟨b,o,V,o2,rfl,hA2,G,X,D⟩:=p.cell F (j:=h) Qa;have E:Zcz (xs.map IR.l) q row h=x.l.getD h 0:=by unfold Zcz;rw[if_neg z,D]
  rw[E];rw[y]at G;have O:((h:Int)==q)=false:=by simp[z]
  have L:(h:Int)<((n+1:Nat):Int):=Qa
  generalize x.l.getD h 0=v at*;clear z E D F y I J p u H hN hR hA2;go_enter func118,ntmps118;go_wp2;go_ret;exact⟨rfl,rfl⟩
end Go.Proofs
namespace Go.Proofs
variable {m ws W l:List Int} {f g:Nat->Int} {es:List Ex} {den lev d:Int}
def wsum:List Int->(Nat->Int)->Int|[],_=>0|x::m,f=>x*f 0+wsum m fun k=>f (k+1)
theorem ZiI(m:List Int)(f g:Nat->Int):wsum m (fun k=>f k+g k)=wsum m f+wsum m g:=by induction m generalizing f g with|nil=>rfl|cons x m ih=>simp only[wsum];rw[ih (fun k=>f (k+1)) fun k=>g (k+1)];grind
theorem ZlY(m:List Int)(c:Int)(f:Nat->Int):wsum m (fun k=>c*f k)=c*wsum m f:=by induction m generalizing f with|nil=>simp[wsum]|cons x m ih=>simp only[wsum];rw[ih fun k=>f (k+1)];grind
theorem ZlZ(m:List Int)(c:Int)(f:Nat->Int):wsum m (fun k=>f k*c)=wsum m f*c:=by rw[Zzq,<-ZlY];congr 1;funext k;exact Zzq _ _
theorem ZiJ(m:List Int)(c:Int):wsum m (fun _=>c)=c*m.sum:=by induction m<;>grind[wsum]
theorem ZiK(m:List Int):wsum m (fun _=>0)=0:=by rw[ZiJ];simp
theorem ZrX(hm:∀x∈m,0<=x)(h:∀k,k<m.length->f k<=g k):wsum m f<=wsum m g:=by induction m generalizing f g with|nil=>exact Zzm _|cons x m ih=>simp only[wsum];have q:=Int.mul_le_mul_of_nonneg_left (h 0 Qd) (hm x Qd);have u:=ih (fun y p=>hm y (by simp[p])) (f:=fun k=>f (k+1)) (g:=fun k=>g (k+1)) fun k j=>h (k+1) (by simpa using j);omega
theorem Zl0(h:∀k x,m[k]?=some x->x≠0->f k=g k):wsum m f=wsum m g:=by induction m generalizing f g with
 |nil=>rfl|cons x m ih=>
  simp only[wsum];rw[ih (f:=fun k=>f (k+1)) (g:=fun k=>g (k+1)) fun k y p=>h (k+1) y (by simpa using p)];by_cases j:x=0;·rw[j];simp
  ·rw[h 0 x rfl j]
theorem ZfN:∀(a m:List Int),m.length<=a.length->dotL a m=wsum m fun k=>a.getD k 0|[],[],_=>rfl|_::_,[],_=>by simp[dotL,wsum]|[],_::_,h=>by simp at h|a::ar,x::m,h=>by simp only[dotL,wsum,ZAf,ZAe];rw[ZfN ar m (by simpa using h)];grind
theorem Zl1(a b m:List Int)(h:m.length=a.length):dotL (a++b) m=dotL a m:=by induction a generalizing m with|nil=>have:m=[]:=Zz2 (by simpa using h);subst this;cases b<;>simp[dotL]|cons x a ih=>cases m with|nil=>simp at h|cons y m=>simp only[ZzR,dotL];rw[ih m (by simpa using h)]
theorem ZiL(g:Int):∀(a m:List Int),dotL a (m.map (g*·))=g*dotL a m|[],_=>by simp[dotL]|_::_,[]=>by simp[dotL]|a::ar,x::m=>by simp only[ZAN,dotL];rw[ZiL g ar m];grind
theorem ZiM(g:Int):∀(es:List Ex)(W:List Int)(k:Nat),putsL es (W.map (g*·)) k=g*putsL es W k|[],_,_=>by simp[putsL]|_::_,[],_=>by simp[putsL]|a::ar,x::m,k=>by simp only[ZAN,putsL];rw[ZiM g ar m k];grind
def Zcq:List Ex->List Int->List Int->Int|x::es,w::W,m=>w*dotL x.1 m+Zcq es W m|_,_,_=>0
theorem ZiN(m:List Int):∀(es:List Ex)(W:List Int),(∀x∈es,m.length<=x.1.length)->wsum m (putsL es W)=Zcq es W m
 |[],W,_=>by
  have:putsL [] W=fun _=>0:=by funext k;simp[putsL]
  rw[this,ZiK];simp[Zcq]|x::es,[],_=>by
  have:putsL (x::es) []=fun _=>0:=by funext k;simp[putsL]
  rw[this,ZiK];simp[Zcq]|x::es,w::W,h=>by
  have:putsL (x::es) (w::W)=fun k=>w*x.1.getD k 0+putsL es W k:=by funext k;simp[putsL]
  rw[this,ZiI,ZlY,ZiN m es W fun y j=>h y (by simp[j]),<-ZfN _ _ (h x Qd)];rfl
theorem Zl2{m:List Int} {d:Int}:∀(es:List Ex)(W:List Int),(∀w∈W,0<=w)->(∀(i:Nat)(x:Ex)(w:Int),es[i]?=some x->W[i]?=some w->0<w->dotL x.1 m<=x.2*d)->Zcq es W m<=spentL es W*d
 |[],_,_,_=>by simp[Zcq,spentL]|_::_,[],_,_=>by simp[Zcq,spentL]|x::es,w::W,hw,h=>by
  have z:=Zl2 es W (fun v j=>hw v (by simp[j])) fun i y v q j=>h (i+1) y v (by simpa using q) (by simpa using j);simp only[Zcq,spentL];have p:=hw w Qd;have:w*dotL x.1 m<=w*(x.2*d):=by
   by_cases u:w=0;·rw[u];simp
   ·exact Int.mul_le_mul_of_nonneg_left (h 0 x w rfl rfl Qa) p
  grind
theorem Zl3{m:List Int} {d:Int}:∀(es:List Ex)(W:List Int),(∀(i:Nat)(x:Ex)(w:Int),es[i]?=some x->W[i]?=some w->w≠0->dotL x.1 m=x.2*d)->Zcq es W m=spentL es W*d
 |[],_,_=>by simp[Zcq,spentL]|_::_,[],_=>by simp[Zcq,spentL]|x::es,w::W,h=>by
  have j:=Zl3 es W fun i y v u q=>h (i+1) y v (by simpa using u) (by simpa using q);simp only[Zcq,spentL];by_cases p:w=0;·rw[p,j];simp
  ·rw[h 0 x w rfl rfl p,j];grind
theorem ZrY(q:∀x∈es,x.1.length=m.length)(z:ws.length=m.length)(hm:∀x∈m,0<=x)(p:m.sum=d)(y:∀w∈W,0<=w)(h:∀k,k<m.length->lev<=ws.getD k 0*den+putsL es W k)(j:∀(i:Nat)(x:Ex)(w:Int),es[i]?=some x->W[i]?=some w->0<w->dotL x.1 m<=x.2*d):(lev-spentL es W)*d<=dotL ws m*den:=by have u:=ZrX hm h;rw[ZiJ,ZiI,ZlZ,<-ZfN _ _ Qa,p,ZiN _ _ _ fun x D=>by rw[q x D];exact ZBF _]at u;have E:=Zl2 es W y j;grind
theorem ZrZ(q:∀x∈es,x.1.length=m.length)(y:ws.length=m.length)(p:m.sum=d)(h:∀k x,m[k]?=some x->x≠0->lev=ws.getD k 0*den+putsL es W k)(j:∀(i:Nat)(x:Ex)(w:Int),es[i]?=some x->W[i]?=some w->w≠0->dotL x.1 m=x.2*d):(lev-spentL es W)*d=dotL ws m*den:=by have u:wsum m (fun _=>lev)=wsum m fun k=>ws.getD k 0*den+putsL es W k:=Zl0 h;rw[ZiJ,ZiI,ZlZ,<-ZfN _ _ Qa,p,ZiN _ _ _ fun x z=>by rw[q x z];exact ZBF _]at u;have D:=Zl3 es W j;grind
theorem Zaf{a b:Int} {A B:Nat} (ha:a.natAbs<=A)(hb:b.natAbs<=B):(a*b).natAbs<=A*B:=by rw[Zzz];exact ZBP ha hb
theorem ZcT:∀(l:List Int)(g:Nat),gcdL g l∣g/\∀x∈l,(gcdL g l:Int)∣x
 |[],g=>⟨Nat.dvd_refl _,fun x h=>by cases h⟩|n::l,g=>by
  obtain⟨j,p⟩:=ZcT l (Nat.gcd g n.natAbs);simp only[gcdL];refine⟨Nat.dvd_trans j (Nat.gcd_dvd_left _ _),fun x h=>?_⟩;rcases ZAX.1 h with rfl|h;·exact Int.ofNat_dvd_left.2 (Nat.dvd_trans j (Nat.gcd_dvd_right _ _))
  ·exact p x h
theorem ZcU{g:Nat} (x:Int)(hx:x∈l)(h0:x≠0):0<gcdL g l:=by
 rcases Nat.eq_zero_or_pos (gcdL g l)with h|h;·have:=(ZcT l g).2 x hx;rw[h]at this;exact absurd (Int.zero_dvd.1 this) h0
 ·exact h
theorem Zl4{g:Int} (p:0<g)(h:∀x∈l,g∣x):(l.map (· / g)).map (g*·)=l:=by
 rw[ZAP];conv=>rhs;rw[<-List.map_id l]
 apply List.map_congr_left;intro x j;simp only[Function.comp_apply,id_eq];exact Zzr (h x j)
end Go.Proofs
namespace Go.Proofs
open Go.RowKit
variable {w:World} {A:Option Addr} {l:List Int} {K:Nat}
structure Pa where
 nm:ByteArray
 a0:Int
 a1:Int
 c0:Int
 c1:Int
def Pa.cs(p:Pa):List Value:=[.string p.nm,.int .i64 p.a0,.int .i64 p.a1,.int .i64 p.c0,.int .i64 p.c1]
structure En where
 nm:ByteArray
 A:Option Addr
 c:Nat
 co:List Int
 mo:Int
def En.cs(x:En):List Value:=[.string x.nm,.slice x.A x.co.length x.c,.int .i64 x.mo]
def En.ex(x:En):Ex:=(x.co,x.mo)
def Zas(w:World)(A:Option Addr)(es:List En):Prop:=At 3 En.cs w A es/\∀x∈es,At 1 Zc w x.A x.co
theorem Zas.below{w':World} {es:List En} (h:Zas w A es)(hb:QB w w'):Zas w' A es:=⟨h.1.below hb,fun x j=>(h.2 x j).below hb⟩
theorem Zan(h:At 1 Zc w A l) {k:Nat} (hk:k<l.length):∃b o,A=some ⟨b,o,none⟩/\b<w.heap.size/\w.cell? ⟨b,o+k,none⟩=some (.int .i64 (l.getD k 0)):=by obtain⟨b,o,p,j,q⟩:=h k _ (ZAm hk);refine⟨b,o,p,j,?_⟩;have:=q 0 _ rfl;rw[ZAg,ZAm hk];simpa using this
def ZE(K:Nat)(l:List Int):Prop:=∀x∈l,x.natAbs<=K
theorem ZE.get(h:ZE K l)(k:Nat):(l.getD k 0).natAbs<=K:=by grind[ZE]
theorem ZE.mono{j:Nat} (h:ZE K l)(p:K<=j):ZE j l:=fun x q=>ZBG (h x q) p
theorem ZiO:∀(a b:List Int) (k:Nat),k<a.length->k<b.length->dotL (a.take (k+1)) (b.take (k+1))=dotL (a.take k) (b.take k)+a.getD k 0*b.getD k 0|[],_,_,h,_=>by simp at h|_::_,[],_,_,h=>by simp at h|x::a,y::b,0,_,_=>by cases a<;>cases b<;>simp[dotL]|x::a,y::b,k+1,h,h'=>by simp only[ZBr,dotL,ZAe];have:=ZiO a b k (by simpa using h) (by simpa using h');rw[this];omega
theorem ZeP{X Y:Nat}:∀(a b:List Int) (k:Nat),ZE X a->ZE Y b->(dotL (a.take k) (b.take k)).natAbs<=k*(X*Y)|[],b,k,_,_=>by simp[dotL]|_::_,[],k,_,_=>by simp[dotL]|_::_,_::_,0,_,_=>by simp[dotL]|x::a,y::b,k+1,ha,hb=>by simp only[ZBr,dotL];have j:=Zaf (ha x Qd) (hb y Qd);have p:=ZeP a b k (fun z h=>ha z (by simp[h])) fun z h=>hb z (by simp[h]);rw[ZBw];omega
theorem ZiP(a b:List Int) (h:a.length=b.length):dotL (a.take a.length) (b.take a.length)=dotL a b:=by rw[ZBo,h,ZBo]
theorem ZiQ(c:Nat):∀(es:List Ex) (W:List Int) (k:Nat),k<es.length->k<W.length->putsL (es.take (k+1)) (W.take (k+1)) c=putsL (es.take k) (W.take k) c+W.getD k 0*(es.getD k default).1.getD c 0|[],_,_,h,_=>by simp at h|_::_,[],_,_,h=>by simp at h|x::a,y::b,0,_,_=>by cases a<;>cases b<;>simp[putsL]|x::a,y::b,k+1,h,h'=>by simp only[ZBr,putsL,ZAe];have:=ZiQ c a b k (by simpa using h) (by simpa using h');rw[this];omega
theorem ZfO{X Y:Nat} (c:Nat):∀(es:List Ex) (W:List Int) (k:Nat),(∀x∈es,ZE X x.1)->ZE Y W->(putsL (es.take k) (W.take k) c).natAbs<=k*(Y*X)|[],b,k,_,_=>by simp[putsL]|_::_,[],k,_,_=>by simp[putsL]|_::_,_::_,0,_,_=>by simp[putsL]|x::a,y::b,k+1,ha,hb=>by simp only[ZBr,putsL];have j:=Zaf (hb y Qd) ((ha x Qd).get c);have p:=ZfO c a b k (fun z h=>ha z (by simp[h])) fun z h=>hb z (by simp[h]);rw[ZBw];omega
theorem ZiR:∀(es:List Ex) (W:List Int) (k:Nat),k<es.length->k<W.length->spentL (es.take (k+1)) (W.take (k+1))=spentL (es.take k) (W.take k)+W.getD k 0*(es.getD k default).2|[],_,_,h,_=>by simp at h|_::_,[],_,_,h=>by simp at h|x::a,y::b,0,_,_=>by cases a<;>cases b<;>simp[spentL]|x::a,y::b,k+1,h,h'=>by simp only[ZBr,spentL,ZAe];have:=ZiR a b k (by simpa using h) (by simpa using h');rw[this];omega
theorem Zec{X Y:Nat}:∀(es:List Ex) (W:List Int) (k:Nat),(∀x∈es,x.2.natAbs<=X)->ZE Y W->(spentL (es.take k) (W.take k)).natAbs<=k*(Y*X)|[],b,k,_,_=>by simp[spentL]|_::_,[],k,_,_=>by simp[spentL]|_::_,_::_,0,_,_=>by simp[spentL]|x::a,y::b,k+1,ha,hb=>by simp only[ZBr,spentL];have j:=Zaf (hb y Qd) (ha x Qd);have p:=Zec a b k (fun z h=>ha z (by simp[h])) fun z h=>hb z (by simp[h]);rw[ZBw];omega
end Go.Proofs
namespace Go.Proofs
open Tryz
open Go.RowKit
theorem ZcV{K x k n:Nat} (h:x<=k*K)(hk:k<=n):x<=n*K:=ZBG h (ZBQ _ hk)
theorem _root_.Qv{P:Prop}(h:P:=by simp[intOf]<;>omega):P:=h
theorem ZiS(A B:Option Addr)(a b:List Int)(ca cb:Nat)(w:World)(hA:At 1 Zc w A a)(hB:At 1 Zc w B b)(I:a.length=b.length)(h8:a.length<=8)(X Y:Nat)(u:8*(X*Y)<=9000000000000000000)(sa:ZE X a)(sb:ZE Y b):Calls prog 30 #[.slice A a.length ca,.slice B b.length cb] w fun e w'=>e=.returned (dotL a b)/\w=w':=by
 have h:=ZzG (ZiP a b I);have j:=ZzG fun k q=>ZiO a b k q (by rw[<-I];exact q);have D:=ZzG fun k=>ZeP (X:=X) (Y:=Y) a b k sa sb;have gA:=ZzG fun k (q:k<a.length)=>Zan hA q;have gB:=ZzG fun k (q:k<a.length)=>Zan (w:=w) hB (k:=k) (by rw[<-I];exact q);have ga:=ZzG sa.get;have u:=ZzG u;have gb:=ZzG sb.get;obtain⟨N,V⟩:=Qu a.length;rw[V]at h j h8 gA gB |-;rw[<-I,V];clear hA hB I V sa sb;obtain⟨S,Z⟩:∃S:Nat->Int,(fun k=>dotL (a.take k) (b.take k))=S:=⟨_,rfl⟩;have F:∀k,dotL (a.take k) (b.take k)=S k:=fun k=>by rw[<-Z]
 have aA:S 0=0:=by rw[<-Z];cases a<;>cases b<;>simp[dotL]
 simp only[F]at h j D;obtain⟨R,hR⟩:=Qu (dotL a b);rw[hR]at h |-;clear Z F hR;have aB:=h;go_enter func30,ntmps30;go_wp2;go_loopw [5,10] (fun s i wr=>∃k:Nat,k<=N/\i=.int .i64 k/\s=.int .i64 (S k)/\w=wr)(fun _ i _=>N-(intOf i).toNat);case atStart=>exact⟨0,ZB2 _,rfl,by rw[aA],rfl⟩
 case round=>
  obtain⟨k,q,rfl,rfl,rfl⟩:=hrel;by_cases p:k<N
  ·have aC:(k:Int)<(N:Int):=Qa
   obtain⟨b1,o1,hA1,-,c1⟩:=gA.out k p;obtain⟨b2,o2,U,-,c2⟩:=gB.out k p;subst hA1;subst U;have L:=j.out k p;have J:=Zaf (ga.out k) (gb.out k);have G:=ZcV (D.out k) q;have H:=ZcV (D.out (k+1)) p;obtain⟨x,hx⟩:=Qu (a.getD k 0);obtain⟨y,hy⟩:=Qu (b.getD k 0);rw[hx]at c1 L J;rw[hy]at c2 L J;obtain⟨z,hz⟩:=Qu (x*y);rw[hz]at L J;have h9:=ZBQ (X*Y) h8;have E:=u.out;obtain⟨XY,O⟩:=Qu (X*Y);rw[O]at J G H h9 E;have aD:IntKind.i64.wrap (x*y)=z:=by rw[hz];exact ZzE _ Qa
   have aE:IntKind.i64.wrap (S k+z)=S (k+1):=by rw[<-L];exact ZzE _ Qa
   clear hz L J G H hx hy h9 E O;go_wp2;go_roundw;case rel=>exact⟨k+1,Qa,Qj,rfl,Qr⟩
   case measure=>exact Qv
  ·obtain rfl:k=N:=Qa
   have e:S k=R:=h.out;clear p;go_wp2;go_ret;exact⟨ZbG e,rfl⟩
theorem Zr0(l:List Int):∀(k g:Nat),k<l.length->gcdL g (l.take (k+1))=Nat.gcd (gcdL g (l.take k)) (l.getD k 0).natAbs:=by induction l with|nil=>intro k g h;simp at h|cons x l ih=>intro k g h;cases k with|zero=>simp[gcdL]|succ k=>simp only[ZBr,gcdL,ZAe];exact ih k _ (by simpa using h)
theorem Zl5{g n:Int} (h:n≠0):Nat.gcd n.natAbs (g.tmod n).natAbs=Nat.gcd g.natAbs n.natAbs/\(g.tmod n).natAbs<n.natAbs:=by rw[Int.natAbs_tmod];refine⟨?_,Nat.mod_lt _ Qa⟩;rw[Nat.gcd_comm,<-Nat.gcd_rec,Nat.gcd_comm]
theorem ZiT(A:Option Addr)(l:List Int)(c:Nat)(w:World)(hA:At 1 Zc w A l)(h8:l.length<=1000)(sl:ZE 1000000000000000000 l):Calls prog 62 #[.slice A l.length c] w (Qt w (gcdL 0 l:Nat)):=by
 have h:=ZzG fun k I=>Zr0 l k 0 I;have gA:=ZzG fun W' (hb:QB w W') k (I:k<l.length)=>Zan (hA.below hb) I;have ga:=ZzG sl.get;have p:Hid (gcdL 0 (l.take l.length)=gcdL 0 l):=by rw[ZBo];exact rfl
 obtain⟨N,hN⟩:=Qu l.length;rw[hN]at h h8 gA p |-;obtain⟨S,J⟩:∃S:Nat->Nat,(fun k=>gcdL 0 (l.take k))=S:=⟨_,rfl⟩;have E:∀k,gcdL 0 (l.take k)=S k:=fun k=>by rw[<-J]
 have L:S 0=0:=by rw[<-J];simp[gcdL]
 simp only[E]at h p;obtain⟨R,hR⟩:=Qu (gcdL 0 l);rw[hR]at p |-;clear hA hN sl J E hR;go_enter func62,ntmps62;go_wp2;go_loopw [3,8] (fun s i wr=>∃(k:Nat)(g:Int),k<=N/\i=.int .i64 k/\s=.int .i64 g/\Hid (g.natAbs=S k)/\Hid (g.natAbs<=1000000000000000000)/\QB w wr)(fun _ i _=>N-(intOf i).toNat);case atStart=>exact⟨0,0,ZB2 _,rfl,rfl,by show (0:Int).natAbs=_;rw[L];rfl,by show (0:Int).natAbs<=_;omega,Qi⟩
 case round=>
  obtain⟨k,g0,I,rfl,rfl,F,y,q⟩:=hrel;by_cases D:k<N
  ·have aC:(k:Int)<(N:Int):=Qa
   obtain⟨b1,o1,hA1,aE,c1⟩:=gA.out wr q k D;subst hA1;have ht:=ZzG (h.out k D);have H:=ZzG (ga.out k);obtain⟨x,hx⟩:=Qu (l.getD k 0);rw[hx]at c1 ht H;clear hx;go_wp2;go_loopw [3,5] (fun s j wr=>∃g n:Int,s=.int .i64 g/\j=.int .i64 n/\Hid (Nat.gcd g.natAbs n.natAbs=S (k+1))/\Hid (g.natAbs<=1000000000000000000/\n.natAbs<=1000000000000000000)/\QB w wr)(fun _ j _=>(intOf j).natAbs);case atStart=>exact⟨g0,x,rfl,rfl,by show Nat.gcd _ _=_;rw[ht.out,F.out],⟨y.out,H.out⟩,by first|assumption|go_grown⟩
   case round=>
    clear q c1;obtain⟨g,n,rfl,rfl,hg,u,q⟩:=hrel;by_cases Y:n=0
    ·subst Y;have z:=ZzG (show g.natAbs=S (k+1)from by have:=hg.out;simpa using this);go_wp2;go_roundw;case rel=>exact⟨k+1,g,Qa,Qj,rfl,z.out,u.out.1,q⟩
     case measure=>exact Qv
    ·have aD : (n != 0) = true := by simpa using Y
     obtain⟨s1,s2⟩:=Zl5 (g:=g) Y;have z:=ZzG (s1.trans hg.out);have G:=ZzG (show n.natAbs<=1000000000000000000/\(g.tmod n).natAbs<=1000000000000000000 from⟨u.out.2,by have:=u.out.2;omega⟩);have X:=ZzG s2;clear s1 s2;go_wp2;refine Zbr w Qb Qb Qi ?_;intro V U;repeat (go_big_quiet_step (fail))
     refine wpQuiet_nil ?_;intro wb O aA Z;clear V U;go_wp2;go_roundw;case rel=>exact⟨n,g.tmod n,rfl,rfl,z.out,G.out,by first|assumption|go_grown⟩
     case measure=>have:=X.out;simp only[intOf];exact this
  ·obtain rfl:k=N:=Qa
   have aB:g0.natAbs=R:=F.out.trans p.out;have u:=y.out;clear D;go_wp2;all_goals go_ret
   all_goals exact⟨ZbG Qa,q⟩
def pcn:Nat->Nat->Nat|0,_=>0|f+1,n=>n%2+pcn f (n / 2)
def o1(x:Int):Int:=IntKind.u64.wrap (bits .and .u64 (x / 2) 6148914691236517205+bits .and .u64 x 6148914691236517205)
def o2(x:Int):Int:=IntKind.u64.wrap (bits .and .u64 (x / 4) 3689348814741910323+bits .and .u64 x 3689348814741910323)
def o3(x:Int):Int:=bits .and .u64 (IntKind.u64.wrap (x / 16+x)) 1085102592571150095
def o4(x:Int):Int:=IntKind.u64.wrap (x+x / 256)
def o5(x:Int):Int:=IntKind.u64.wrap (x+x / 65536)
def o6(x:Int):Int:=IntKind.u64.wrap (x+x / 4294967296)
def Zr1(x:Int):Int:=bits .and .i64 (wrap64 (o6 (o5 (o4 (o3 (o2 (o1 x))))))) 127
theorem Zr2:∀n∈List.range 256,Zr1 (n:Int)=((pcn 8 n:Nat):Int):=Qm
theorem Zr3(n:Nat)(j:n<256)(w:World):Calls prog 133 #[.int .u64 n] w fun e w'=>e=.returned (pcn 8 n)/\w=w':=by have h:=ZzG (Zr2 n (ZA8.2 j));go_enter func133,ntmps133;go_wp2;go_ret;exact⟨ZbG h.out,rfl⟩
theorem Zr4(n:Nat)(h:n<256)(w:World):Calls prog 119 #[.int .u64 n] w fun e w'=>e=.returned (pcn 8 n)/\w=w':=by go_enter func119,ntmps119;go_wp2_with (go_at_call 133;refine(Zr3 n h _).mono ?_;rintro e w' ⟨rfl,rfl⟩);go_ret;exact⟨rfl,rfl⟩
end Go.Proofs
namespace Go.Proofs
variable {l:List Int} {x:Int} {k:Nat}
theorem ZiU:∀n∈List.range 6,∀s∈List.range (2^n),∀c∈List.range n,(s>>>c)%2=1->pop n (s-2^c)+1=pop n s/\2^c<=s:=Qm
theorem ZeQ:∀n∈List.range 6,∀s∈List.range (2^n),pop n s<=n:=Qm
theorem Zl6:∀n∈List.range 6,∀s∈List.range (2^n),s≠0->1<=pop n s:=Qm
theorem ZiV{f:Nat->Nat->Int} {M:List Int} {row set Z:Nat}:∀(c:Nat)(acc p:Int),(p=1∨p=-1)->(∀j,j<c->(f row j).natAbs<=400)->(∀j,j<c->(set>>>j)%2=1->(M.getD (set-2^j) 0).natAbs<=Z)->(ZaU f M row set c acc p).natAbs<=acc.natAbs+c*(400*Z)
 |0,acc,_,_,_,_=>by unfold ZaU;omega|c+1,acc,p,hs,hf,hM=>by
  unfold ZaU;have y:(-p=1∨-p=-1):=Qa
  split;·have:=ZiV c acc p hs (fun j u=>hf j Qa) fun j u=>hM j Qa;rw[ZBw];omega
  ·rename_i F;have q:(set>>>c)%2=1:=Qa
   have D:=Zaf (hf c Qa) (hM c Qa q);have z:∀h,h.natAbs<=acc.natAbs+400*Z->(ZaU f M row set c h (-p)).natAbs<=acc.natAbs+(c+1)*(400*Z):=fun h E=>by have:=ZiV c h (-p) y (fun j u=>hf j Qa) fun j u=>hM j Qa;rw[ZBw];omega
   refine z _ ?_;split;·omega
   ·rw[Int.mul_assoc];rcases hs with rfl|rfl<;>omega
theorem Zl7(h:k<l.length):(l++[x]).getD k 0=l.getD k 0:=by rw[ZAg,ZAh h,<-ZAg]
theorem ZiW(h:k=l.length):(l++[x]).getD k 0=x:=by subst h;simp[ZAg]
def ZdF(f:Nat->Nat->Int)(n:Nat):Prop:=∀i j,i<n->j<n->(f i j).natAbs<=400
theorem ZiX{f:Nat->Nat->Int} {n:Nat} (z:n<=5)(hf:ZdF f n):∀s,s<2^n->∀k,k<=s->((dpM f n s).getD k 0).natAbs<=2000^pop n k
 |0,_,k,hk=>by
  obtain rfl:k=0:=Qa
  simp only[dpM,ZAf];exact Nat.one_le_pow _ _ Qa|s+1,hs,k,hk=>by
  have D:=ZiX z hf s Qa;have N:=Zdf f n s;unfold dpM;by_cases y:k<=s;·rw[Zl7 Qa];exact D k y
  ·obtain rfl:k=s+1:=Qa
   rw[ZiW Qa];have h:n∈List.range 6:=ZA8.2 Qa;have q:s+1∈List.range (2^n):=ZA8.2 hs;have G:=Zl6 n h _ q Qa;have H:=ZeQ n h _ q;unfold Zcp;have:=ZiV (f:=f) (M:=dpM f n s) (row:=pop n (s+1)-1) (set:=s+1) (Z:=2000^(pop n (s+1)-1)) n 0 1 (.inl rfl) (fun j u=>hf _ _ Qa u) fun j u E=>by obtain⟨I,J⟩:=ZiU n h _ q j (ZA8.2 u) E;have L:=ZB0 j;have:=D (s+1-2^j) Qa;rwa [show pop n (s+1-2^j)=pop n (s+1)-1 by omega]at this
   refine ZBG this ?_;obtain⟨p,F⟩:∃p,pop n (s+1)=p+1:=⟨pop n (s+1)-1,Qa⟩;rw[F];simp only[ZBx,Int.natAbs_zero,ZB1,Nat.pow_succ];have:n*(400*2000^p)<=5*(400*2000^p):=ZBQ _ z;omega
theorem Zr5{f:Nat->Nat->Int} {n s j:Nat} (z:n<=5)(hf:ZdF f n)(hs:s+1<2^n)(y:j<n)(hb:((s+1)>>>j)%2=1):((dpM f n s).getD (s+1-2^j) 0).natAbs<=16000000000000/\2^j<=s+1/\pop n (s+1)-1<n:=by
 have h:n∈List.range 6:=ZA8.2 Qa;have p:s+1∈List.range (2^n):=ZA8.2 hs;obtain⟨E,q⟩:=ZiU n h _ p j (ZA8.2 y) hb;have D:=ZeQ n h _ p;have F:=ZB0 j;have:=ZiX z hf s Qa (s+1-2^j) Qa;refine⟨ZBG this ?_,q,Qa⟩;have u:pop n (s+1-2^j)<=4:=Qa
 exact ZBG (ZBV Qa u) Qc
end Go.Proofs
namespace Go.Proofs
open Tryz
open Go.RowKit
variable {f:Nat->Nat->Int} {n s:Nat} {acc:Int}
theorem info3:(prog.info? 3).map (fun i=>(i.zero,i.size,i.bytes))=some (some (.int .i64 0),1,8):=Qb
theorem ZdG(n:Nat) (h:n<=100000) (W:World):(Instr.makeSlice 31 (.int .i64 n) (.int .i64 n)).run prog W=.ok (.slice (some W.heap.size) n n) (W.alloc (.cells (ZaL (List.replicate n 0)) 3)):=by rw[<-ZrS];exact run_make_row' 31 3 (.int .i64 0) 8 underlying31 info3 rfl .i64 .i64 n Qa Qa W
theorem Zr6:∀s∈List.range 32,∀c∈List.range 5,(s>>>c)%2=1->bits .andNot .i64 (s:Int) ((2^c:Nat):Int)=((s-2^c:Nat):Int):=Qm
theorem Zr7:∀s∈List.range 32,bits .and .i64 (s:Int) 1=((s%2:Nat):Int):=Qm
def ZbI(f:Nat->Nat->Int)(n s:Nat)(acc:Int):List Int:=dpM f n (s-1)++acc::List.replicate (2^n-1-s) 0
theorem Zr8{h:Int} (j:1<=s):(ZbI f n s acc).set s h=ZbI f n s h:=by unfold ZbI;rw[ZBk _ _ (by rw[Zdf];omega),Zdf,show s-(s-1+1)=0 by omega];rfl
theorem ZiY(h:1<=s):(ZbI f n s acc)[s]?=some acc:=by unfold ZbI;rw[ZAi (by rw[Zdf];omega),Zdf,show s-(s-1+1)=0 by omega];rfl
theorem Zr9{k:Nat} (h:1<=s)(hk:k<s):(ZbI f n s acc)[k]?=some ((dpM f n (s-1)).getD k 0):=by unfold ZbI;have j:=Zdf f n (s-1);rw[ZAh Qa,ZAg,ZAm Qa];rfl
theorem Zsa(h:1<=s)(j:s+1<2^n):ZbI f n s (Zcp f n (dpM f n (s-1)) s)=ZbI f n (s+1) 0:=by obtain⟨r,rfl⟩:∃r,s=r+1:=⟨s-1,Qa⟩;unfold ZbI;simp only[ZBx];rw[show dpM f n (r+1)=dpM f n r++[Zcp f n (dpM f n r) (r+1)]from rfl,show 2^n-1-(r+1)=(2^n-1-(r+1+1))+1 by omega,ZBi];simp
theorem Zsb(h:1<=s)(j:s+1=2^n):(ZbI f n s (Zcp f n (dpM f n (s-1)) s))[2^n-1]?=some (ZW f n):=by obtain⟨r,rfl⟩:∃r,s=r+1:=⟨s-1,Qa⟩;rw[show 2^n-1=r+1 by omega,ZiY h];unfold ZW;rw[show 2^n-1=r+1 by omega,ZBx];show _=some ((dpM f n r++[Zcp f n (dpM f n r) (r+1)]).getD (r+1) 0);rw[ZiW (by rw[Zdf])]
theorem Zsc(h:1<=n):(List.replicate (2^n) 0).set 0 1=ZbI f n 1 0:=by unfold ZbI;obtain⟨r,j⟩:∃r,2^n=r+2:=⟨2^n-2,by have:2^1<=2^n:=ZBV Qa h;omega⟩;rw[j,show r+2-1-1=r by omega];rfl
variable {f:Nat->Nat->Int} {M:List Int} {row s d K x n:Nat} {acc g:Int}
theorem Zsd:∀n∈List.range 6,∀s∈List.range (2^n),s≠0->(pcn 8 s-1)+1=pcn 8 s/\pop n s-1=pcn 8 s-1/\pcn 8 s-1<n/\IntKind.u64.wrap (s:Int)=(s:Int):=Qm
theorem Zse:∀s∈List.range 32,∀c∈List.range 5,(s:Int) / 2^c=((s>>>c:Nat):Int):=Qm
theorem Zsf(h:(s>>>d)%2=0):ZaU f M row s (d+1) acc g=ZaU f M row s d acc g:=by
 conv=>lhs;unfold ZaU
 rw[if_pos h]
theorem Zsg{m:Int} (h:(s>>>d)%2=1) (hm:M.getD (s-2^d) 0=m):ZaU f M row s (d+1) acc g=ZaU f M row s d (if m=0 then acc else acc+g*f row d*m) (-g):=by
 conv=>lhs;unfold ZaU
 rw[if_neg Qa,hm]
theorem Zl8(h:x<=(n-(d+1))*K)(j:d+1<=n):x<=(n-d)*K:=ZBG h (ZBQ _ Qa)
theorem Zsh{y:Nat} (h:x<=(n-(d+1))*K)(p:y<=x+K)(j:d+1<=n):y<=(n-d)*K:=by rw[show n-d=n-(d+1)+1 by omega,ZBw,Nat.one_mul];omega
theorem Zsi(h:x<=(n-d)*K)(j:n<=5):x<=5*K:=ZBG h (ZBQ _ Qa)
theorem Zsj(A:Option Addr)(xs:List IR)(cp n:Nat)(q:Int)(w:World)(L:ZbR w A xs)(hn:xs.length=n)(hl:∀x∈xs,x.l.length=n+1)(h1:1<=n)(h5:n<=5)(hf:ZdF (Zcz (xs.map IR.l) q) n):Calls prog 107 #[.slice A n cp,q] w (Qt w (ZW (Zcz (xs.map IR.l) q) n)):=by
 obtain⟨f,aU⟩:=Qu (Zcz (xs.map IR.l) q);have aO:=ZzG fun(row aN:Nat)(h1:row<n)(h2:aN<n) W (F:QB w W)(e1:W.heap[w.heap.size]?=some (.cells #[.slice A n cp] 148))(e2:W.heap[w.heap.size+1]?=some (.cells #[q] 3))(e3:W.heap[w.heap.size+2]?=some (.cells #[n] 3))=>ZrW A xs cp n q (w.heap.size+1) (w.heap.size+2) w.heap.size row aN W e2 e3 e1 (L.below F) hn hl h1 h2;rw[aU]at aO hf |-;clear aU L hl hn;obtain⟨P,hP⟩:=Qu (2^n);have bR:2<=P/\P<=32:=by rcases n with _|_|_|_|_|_|n<;>first|omega|(subst hP;decide)
 have bG:=ZzG (ZdG P Qa);have H:=ZzG hP;have aS:=ZzG hf;have aZ:(ZaL (List.replicate P 0))[0]?=some (.int .i64 0):=by rw[ZiD,ZAt,if_pos Qa];rfl
 have bT:(2:Int)^n=(P:Int):=by rw[<-hP];simp
 clear hP hf;go_enter func107,ntmps107;have aW:=bG.out;go_wp2;clear aZ aW;go_loopw [8] (fun i wr=>∃s:Nat,1<=s/\s<=P/\i=.int .i64 s/\Hid ((wr.heap[w.heap.size]?=some (.cells #[.slice A n cp] 148)/\wr.heap[w.heap.size+1]?=some (.cells #[q] 3)/\wr.heap[w.heap.size+2]?=some (.cells #[n] 3)/\ZM 3 wr (w.heap.size+3) (if s<P then ZbI f n s 0 else ZbI f n (s-1) (Zcp f n (dpM f n (s-2)) (s-1)))/\QB w wr))) (fun i _=>P-(intOf i).toNat);case atStart=>
  refine⟨1,ZBF _,Qa,rfl,?_,?_,?_,?_,?_⟩;·exact Qs
  ·exact Qs
  ·exact Qs
  ·rw[if_pos Qa,<-Zsc h1,H.out];have:=ZM.new (T:=3) (((w.alloc (.cells #[.slice A n cp] 148)).alloc (.cells #[q] 3)).alloc (.cells #[n] 3)) ((List.replicate P 0).set 0 1);simp only[World.size_alloc]at this;rw[ZgS];exact this
  ·go_grown
 case round=>
  obtain⟨s,N,bV,rfl,z⟩:=hrel;obtain⟨m0,m1,m2,m3,y⟩:=z.out;clear z;have C2:=bk1 m2;by_cases X:s<P
  ·have bU:(s:Int)<(P:Int):=Qa
   rw[if_pos X]at m3;have E:s∈List.range 32:=ZA8.2 Qa;obtain⟨aD,aE,aF,aY⟩:=Zsd n (ZA8.2 Qa) s (ZA8.2 (by rw[H.out];exact X)) Qa;obtain⟨row,aC⟩:=Qu (pcn 8 s-1);rw[aC]at aD aE aF;have hO:=ZzG fun W=>Zr4 s Qa W;rw[<-aD]at hO;have bK:=ZzG fun(d:Nat)(hd:d<n)(F:(s>>>d)%2=1)=>(by obtain⟨r,rfl⟩:∃r,s=r+1:=⟨s-1,Qa⟩;exact Zr5 h5 aS.out (by rw[H.out];exact X) hd F:((dpM f n (s-1)).getD (s-2^d) 0).natAbs<=16000000000000/\2^d<=s/\pop n s-1<n);have J:=ZzG fun h=>Zsa (f:=f) (n:=n) (s:=s) N h;have aP:Hid (ZaU f (dpM f n (s-1)) row s n 0 1=Zcp f n (dpM f n (s-1)) s):=by unfold Zcp;rw[aE];exact rfl
   have aJ:=ZzG (Zse s E);have aR:=ZzG (Zr6 s E);obtain⟨V,hV⟩:=Qu (Zcp f n (dpM f n (s-1)) s);rw[hV]at J aP;have bB:=ZzG hV;clear hV aC aD aE E;have E:=ZzG (show s<32 by omega);go_wp2_with (go_at_call 119;refine(hO.out _).mono ?_;rintro e w2 ⟨rfl,rfl⟩);clear hO aY;go_loopw [10,11] (fun sg j wr=>∃(c:Nat) (g acc:Int),c<=n/\j=.int .i64 ((c:Int)-1)/\sg=.int .i64 g/\(g=1∨g=-1)/\Hid (ZaU f (dpM f n (s-1)) row s c acc g=V)/\Hid (acc.natAbs<=(n-c)*6400000000000000)/\Hid ((wr.heap[w.heap.size]?=some (.cells #[.slice A n cp] 148)/\wr.heap[w.heap.size+1]?=some (.cells #[q] 3)/\wr.heap[w.heap.size+2]?=some (.cells #[n] 3)/\ZM 3 wr (w.heap.size+3) (ZbI f n s acc)/\QB w wr))) (fun _ j _=>(intOf j+1).toNat);case atStart=>exact⟨n,1,0,ZBF _,rfl,rfl,.inl rfl,aP.out,by show (0:Int).natAbs<=_;omega,m0,m1,m2,m3,y⟩
   case round=>
    clear m0 m1 m2 m3 y C2;obtain⟨c',g,acc,hc,rfl,rfl,hg,Z,G,z⟩:=hrel;obtain⟨m0,m1,m2,m3,y⟩:=z.out;clear z;have C2:=bk1 m2;rcases c' with _|d
    ·have hj:((0:Nat):Int)-1=-1:=rfl;rw[hj];have aH:acc=V:=Z.out;subst aH;go_wp2;go_roundw;case rel=>
      refine⟨s+1,Qa,Qa,Qj,m0,m1,m2,?_,y⟩;by_cases hl:s+1<P;·rw[if_pos hl,<-J.out (by rw[H.out];exact hl)];exact m3
      ·rw[if_neg hl,show s+1-1=s by omega,show s+1-2=s-1 by omega,bB.out];exact m3
     case measure=>exact Qv
    ·have hj:((d+1:Nat):Int)-1=(d:Int):=Qa
     rw[hj];obtain⟨t,ht⟩:=Qu (s>>>d);have bJ:(s:Int) / 2^d=(t:Int):=by rw[<-ht];exact aJ.out d (ZA8.2 Qa)
     have O:t<32:=by
      have:s>>>d<=s:=by rw[Nat.shiftRight_eq_div_pow];exact Nat.div_le_self _ _
      have:=E.out;omega
     have R:bits .and .i64 (t:Int) 1=((t%2:Nat):Int):=Zr7 t (ZA8.2 O);rcases Nat.mod_two_eq_zero_or_one t with F|F
     ·rw[F]at R;simp only[Int.natCast_zero,Int.natCast_one,Int.cast_ofNat_Int]at R;have p:=ZzG ((Zsf (by rw[ht];exact F)).symm.trans Z.out);clear F ht O;go_wp2;go_roundw;case rel=>exact⟨d,g,acc,Qa,rfl,rfl,hg,p.out,Zl8 G.out hc,m0,m1,m2,m3,y⟩
      case measure=>exact Qv
     ·rw[F]at R;simp only[Int.natCast_zero,Int.natCast_one,Int.cast_ofNat_Int]at R;obtain⟨z1,z2,z3⟩:=bK.out d Qa (by rw[ht];exact F);obtain⟨m,hm⟩:=Qu ((dpM f n (s-1)).getD (s-2^d) 0);have p:=ZzG (Z.out.symm.trans (Zsg (by rw[ht];exact F) hm));obtain⟨D,hD⟩:=Qu (2^d);have bQ:1<=D:=by rw[<-hD];exact Nat.one_le_two_pow
      have bA:(2:Int)^d=(D:Int):=by rw[<-hD];simp
      have bL:D<=32:=by rw[hD]at z2;omega
      have bC:bits .andNot .i64 (s:Int) (D:Int)=((s-D:Nat):Int):=by rw[<-hD];exact aR.out d (ZA8.2 Qa) (by rw[ht];exact F)
      rw[hm]at z1;rw[hD]at z2 hm;obtain⟨k,hk⟩:=Qu (s-D);rw[hk]at bC hm;have ck:wr.cell? ⟨w.heap.size+3,k,none⟩=some (.int .i64 m):=m3.load (by rw[Zr9 N Qa,hm]);have bF:(k:Int)<(P:Int):=Qa
      have bN:(s:Int) / (D:Int)=(t:Int):=by rw[<-bA];exact bJ
      clear F ht O hm Z hk hD;by_cases Y:m=0
      ·subst Y;have I:=ZzG (show ZaU f (dpM f n (s-1)) row s d acc (-g)=V from by have:=p.out;rw[if_pos rfl]at this;exact this.symm);clear p;have aK:-g=1∨-g=-1:=Qa
       go_wp2;go_roundw;case rel=>exact⟨d,-g,acc,Qa,rfl,rfl,aK,I.out,Zl8 G.out hc,m0,m1,m2,m3,y⟩
       case measure=>exact Qv
      ·have aK:-g=1∨-g=-1:=Qa
       have aT:=aS.out row d aF Qa;obtain⟨v,hv⟩:=Qu (f row d);rw[hv]at aT p;have hA:=ZzG fun W F e1 e2 e3=>aO.out row d aF Qa W F e1 e2 e3;rw[hv]at hA;obtain⟨g1,S⟩:=Qu (g*v);obtain⟨g3,U⟩:=Qu (g1*m);have aB:g1.natAbs<=400:=by rw[<-S];rcases hg with rfl|rfl<;>omega
       have aV:g3.natAbs<=6400000000000000:=by rw[<-U];exact ZBG (Zaf aB z1) Qc
       have aQ:=Zsi G.out h5;obtain⟨a2,aG⟩:=Qu (acc+g3);have aA:a2.natAbs<=acc.natAbs+6400000000000000:=Qa
       have bX:IntKind.i64.wrap (g*v)=g1:=by rw[S];exact ZzE _ Qa
       have bY:IntKind.i64.wrap (g1*m)=g3:=by rw[U];exact ZzE _ Qa
       have bZ:IntKind.i64.wrap (acc+g3)=a2:=by rw[aG];exact ZzE _ Qa
       have I:=ZzG (show ZaU f (dpM f n (s-1)) row s d a2 (-g)=V from by have:=p.out;rw[if_neg Y,S,U,aG]at this;exact this.symm);have aI:=ZzG (Zsh G.out aA hc);have cs:wr.cell? ⟨w.heap.size+3,s,none⟩=some (.int .i64 acc):=m3.load (ZiY N);have bS : (m != 0) = true := by simpa using Y
       clear p S U aG aB aV aQ aA Y aT z1 hv;have hA2:=ZzG fun(x:Grew wr)=>hA.out x.val (via y x.ok) (Zx x.ok m0) (Zx x.ok m1) (Zx x.ok m2);have bW:=m3.size;have bH:(row:Int)+1-1=(row:Int):=Qa
       clear hA;go_wp2;refine ZaK w 14 Qb Qb Qi ?_;intro bE bD;simp only[ZBr,ZBt,ZzZ,Zz0];repeat (go_big_quiet_step ((go_at_call 118;with_reducible exact Zd (hA2.out _))))
       refine wpQuiet_nil ?_;intro wb u aM bI;clear bE bD;have n0:=Zx u m0;have n1:=Zx u m1;have n2:=Zx u m2;have n3:=m3.below u;have bO:=n3.load (ZiY N);have bP:=n3.frozen s;clear m0 m1 m2 m3 C2 cs ck hA2;go_wp2;go_roundw;case rel=>have n4:=n3.store s a2;rw[Zr8 N]at n4;exact⟨d,-g,a2,Qa,rfl,rfl,aK,I.out,aI.out,ZB n0 Qf _,ZB n1 Qf _,ZB n2 Qf _,n4,aM.setCell Qf _⟩
       case measure=>exact Qv
  ·have aX:s=P:=Qa
   subst aX;rw[if_neg Qa]at m3;have aL:=m3.load (k:=s-1) (x:=ZW f n) (by have:=Zsb (f:=f) (n:=n) (s:=s-1) Qa (by rw[H.out];omega);rw[H.out]at this;exact this);obtain⟨k,hk⟩:=Qu (s-1);rw[hk]at aL;have bF:(s:Int)-1=(k:Int):=Qa
   have bM:(k:Int)<(s:Int):=Qa
   clear X;go_wp2;go_ret;exact⟨rfl,y⟩
variable {es:List En} {np:Nat}
structure RightE (es:List En)(np:Nat):Prop where
 n8:es.length<=8
 co:∀x∈es,x.co.length=np/\ZE 20 x.co/\x.mo.natAbs<=20
def exs(es:List En):List Ex:=es.map En.ex
theorem ZdH{k:Nat} {x:En} (h:es[k]?=some x):(exs es).getD k default=(x.co,x.mo):=by simp[exs,ZAg,h,En.ex]
theorem RightE.exs_co(h:RightE es np):∀x∈exs es,ZE 20 x.1:=fun x j=>by obtain⟨y,p,rfl⟩:=ZA3.1 j;exact(h.co y p).2.1
theorem RightE.exs_mo(h:RightE es np):∀x∈exs es,x.2.natAbs<=20:=fun x j=>by obtain⟨y,p,rfl⟩:=ZA3.1 j;exact(h.co y p).2.2
theorem Z8(es:List En):(exs es).length=es.length:=ZAD ..
theorem Zl9(pA eA wA:Option Addr)(pn pc ec wc np:Nat)(es:List En)(W:List Int)(den lev:Int)(c:Nat)(w:World)(hR:RightE es np)(hE:Zas w eA es)(hW:At 1 Zc w wA W)(hl:W.length=es.length)(hc:c<np)(sW:ZE 10000000000000000 W):Calls prog 72 #[.agg #[.slice pA pn pc,.slice eA es.length ec],.agg #[den,lev,.slice wA W.length wc],c] w (Qt w (putsL (exs es) W c)):=by
 have h8:=hR.n8;have j:=ZzG fun k D=>ZiQ c (exs es) W k (by rw[Z8];exact D) (by rw[hl];exact D);have F:=ZzG fun k=>ZfO (X:=20) (Y:=10000000000000000) c (exs es) W k hR.exs_co sW;have p:=ZzG (show putsL ((exs es).take es.length) (W.take es.length) c=putsL (exs es) W c by rw[<-Z8,ZBo,Z8,<-hl,ZBo]);have gE:=ZzG fun y (hb:QB w y) k (D:k<es.length)=>(by
  obtain⟨b,o,hA,h,H⟩:=(hE.below hb).1 k _ (ZAm D);have hx:=ZAy D;obtain⟨h1,h2,-⟩:=hR.co _ hx;obtain⟨E,o2,hA2,Z,aF⟩:=Zan ((hE.below hb).2 _ hx) (k:=c) Qa;refine⟨es[k],b,o,E,o2,hA,h,Z,hA2,h1,?_,?_,?_,aF,h2.get c,ZdH (ZAm D)⟩;·simpa using H 0 _ rfl
  ·have:=H 1 _ rfl;rw[hA2]at this;exact this
  ·exact H 2 _ rfl:∃x:En,∃b o E o2,eA=some ⟨b,o,none⟩/\b<y.heap.size/\E<y.heap.size/\x.A=some ⟨E,o2,none⟩/\x.co.length=np/\y.cell? ⟨b,o+k*3,none⟩=some (.string x.nm)/\y.cell? ⟨b,o+k*3+1,none⟩=some (.slice (some ⟨E,o2,none⟩) x.co.length x.c)/\y.cell? ⟨b,o+k*3+2,none⟩=some (.int .i64 x.mo)/\y.cell? ⟨E,o2+c,none⟩=some (.int .i64 (x.co.getD c 0))/\(x.co.getD c 0).natAbs<=20/\(exs es).getD k default=(x.co,x.mo));have gW:=ZzG fun y (hb:QB w y) k (D:k<es.length)=>Zan (hW.below hb) (k:=k) Qa;have sw:=ZzG sW.get;obtain⟨N,hN⟩:=Qu es.length;rw[hl,hN];rw[hN]at j p gE gW h8;obtain⟨S,hS⟩:∃S:Nat->Int,(fun k=>putsL ((exs es).take k) (W.take k) c)=S:=⟨_,rfl⟩;have V:∀k,putsL ((exs es).take k) (W.take k) c=S k:=fun k=>by rw[<-hS]
 have aB:S 0=0:=by rw[<-hS];cases es<;>cases W<;>simp[putsL,exs]
 simp only[Z8,hN,V]at p j F;obtain⟨R,U⟩:=Qu (putsL (exs es) W c);rw[U]at p |-;clear hE hW hl sW hS V U hR hN;go_enter func72,ntmps72;go_wp2;go_loopw [7,13] (fun s i wr=>∃k:Nat,k<=N/\i=.int .i64 k/\s=.int .i64 (S k)/\wr.heap[w.heap.size]?=some (.cells #[.slice pA pn pc,.slice eA N ec] 25)/\wr.heap[w.heap.size+1]?=some (.cells #[den,lev,.slice wA N wc] 35)/\QB w wr)(fun _ i _=>N-(intOf i).toNat);case atStart=>exact⟨0,ZB2 _,rfl,by rw[aB],Qs,Qs,Qi⟩
 case round=>
  obtain⟨k,D,rfl,rfl,m0,m1,G⟩:=hrel;have C0:=bk2 m0;have C1:=bk3 m1;by_cases h:k<N
  ·have aJ:(k:Int)<(N:Int):=Qa
   obtain⟨x,b,o,E,o2,hA1,aK,aL,hA2,aH,c0,c1,c2,c3,aA,hg⟩:=gE.out wr G k h;obtain⟨b3,o3,hA3,aM,c4⟩:=gW.out wr G k h;subst hA1;subst hA3;have J:=j.out k h;rw[hg]at J;have hm:=Zaf (sw.out k) aA;have aC:=ZcV (F.out k) D;have aD:=ZcV (F.out (k+1)) h;have h9:=ZBQ (10000000000000000*20) h8;have aI:(c:Int)<(x.co.length:Int):=Qa
   obtain⟨u,hu⟩:=Qu (W.getD k 0);obtain⟨v,hv⟩:=Qu (x.co.getD c 0);rw[hu]at c4 J hm;dsimp only at J;rw[hv]at c3 J hm;obtain⟨z,hz⟩:=Qu (u*v);rw[hz]at J hm;have aN:IntKind.i64.wrap (u*v)=z:=by rw[hz];exact ZzE _ Qa
   have aO:IntKind.i64.wrap (S k+z)=S (k+1):=by rw[<-J];exact ZzE _ Qa
   generalize x.co.length=L at*;clear hz J hm aC aD hu hv h9 aA hg hA2 aH;go_wp2;refine Zbr w Qb Qb Qi ?_;intro aG aE;repeat (go_big_quiet_step (fail))
   refine wpQuiet_nil ?_;intro wb q O I;clear aG aE;simp only[World.size_alloc]at I;have n0:=Zx q (Zz m0 _);have n1:=Zx q (Zz m1 _);clear m0 m1 C0 C1 c0 c1 c2 c3 c4;go_wp2;go_roundw;case rel=>exact⟨k+1,Qa,Qj,rfl,n0,n1,O⟩
   case measure=>exact Qv
  ·obtain rfl:k=N:=Qa
   have e:S k=R:=p.out;clear h;go_wp2;go_ret;exact⟨ZbG e,G⟩
theorem Zsk(pA eA wA:Option Addr)(pn pc ec wc np:Nat)(es:List En)(W:List Int)(den lev:Int)(w:World)(hR:RightE es np)(hE:Zas w eA es)(hW:At 1 Zc w wA W)(hl:W.length=es.length)(sW:ZE 10000000000000000 W):Calls prog 73 #[.agg #[.slice pA pn pc,.slice eA es.length ec],.agg #[den,lev,.slice wA W.length wc]] w (Qt w (spentL (exs es) W)):=by
 have h8:=hR.n8;have j:=ZzG fun k y=>ZiR (exs es) W k (by rw[Z8];exact y) (by rw[hl];exact y);have E:=ZzG fun k=>Zec (X:=20) (Y:=10000000000000000) (exs es) W k hR.exs_mo sW;have p:=ZzG (show spentL ((exs es).take es.length) (W.take es.length)=spentL (exs es) W by rw[<-Z8,ZBo,Z8,<-hl,ZBo]);have gE:=ZzG fun D (hb:QB w D) k (y:k<es.length)=>(by
  obtain⟨b,o,hA,h,G⟩:=(hE.below hb).1 k _ (ZAm y);have hx:=ZAy y;obtain⟨h1,h2,-⟩:=hR.co _ hx;have O:=(hR.co _ hx).2.2;refine⟨es[k],b,o,hA,h,?_,?_,?_,O,ZdH (ZAm y)⟩;·simpa using G 0 _ rfl
  ·exact G 1 _ rfl
  ·exact G 2 _ rfl:∃x:En,∃b o,eA=some ⟨b,o,none⟩/\b<D.heap.size/\D.cell? ⟨b,o+k*3,none⟩=some (.string x.nm)/\D.cell? ⟨b,o+k*3+1,none⟩=some (.slice x.A x.co.length x.c)/\D.cell? ⟨b,o+k*3+2,none⟩=some (.int .i64 x.mo)/\x.mo.natAbs<=20/\(exs es).getD k default=(x.co,x.mo));have gW:=ZzG fun D (hb:QB w D) k (y:k<es.length)=>Zan (hW.below hb) (k:=k) Qa;have sw:=ZzG sW.get;obtain⟨N,hN⟩:=Qu es.length;rw[hl,hN];rw[hN]at j p gE gW h8;obtain⟨S,hS⟩:∃S:Nat->Int,(fun k=>spentL ((exs es).take k) (W.take k))=S:=⟨_,rfl⟩;have V:∀k,spentL ((exs es).take k) (W.take k)=S k:=fun k=>by rw[<-hS]
 have aA:S 0=0:=by rw[<-hS];cases es<;>cases W<;>simp[spentL,exs]
 simp only[Z8,hN,V]at p j E;obtain⟨R,U⟩:=Qu (spentL (exs es) W);rw[U]at p |-;clear hE hW hl sW hS V U hR hN;go_enter func73,ntmps73;go_wp2;go_loopw [5,11] (fun s i wr=>∃k:Nat,k<=N/\i=.int .i64 k/\s=.int .i64 (S k)/\wr.heap[w.heap.size]?=some (.cells #[.slice pA pn pc,.slice eA N ec] 25)/\wr.heap[w.heap.size+1]?=some (.cells #[den,lev,.slice wA N wc] 35)/\QB w wr)(fun _ i _=>N-(intOf i).toNat);case atStart=>exact⟨0,ZB2 _,rfl,by rw[aA],Qs,Qs,Qi⟩
 case round=>
  obtain⟨k,y,rfl,rfl,m0,m1,F⟩:=hrel;have C0:=bk2 m0;have C1:=bk3 m1;by_cases h:k<N
  ·have aF:(k:Int)<(N:Int):=Qa
   obtain⟨x,b,o,hA1,aG,c0,c1,c2,Z,hg⟩:=gE.out wr F k h;obtain⟨b3,o3,hA3,aH,c4⟩:=gW.out wr F k h;subst hA1;subst hA3;have I:=j.out k h;rw[hg]at I;have O:=Zaf (sw.out k) Z;have aB:=ZcV (E.out k) y;have aC:=ZcV (E.out (k+1)) h;have h9:=ZBQ (10000000000000000*20) h8;obtain⟨u,hu⟩:=Qu (W.getD k 0);obtain⟨v,hv⟩:=Qu x.mo;rw[hu]at c4 I O;dsimp only at I;rw[hv]at c2 I O;obtain⟨z,hz⟩:=Qu (u*v);rw[hz]at I O;have aI:IntKind.i64.wrap (u*v)=z:=by rw[hz];exact ZzE _ Qa
   have aJ:IntKind.i64.wrap (S k+z)=S (k+1):=by rw[<-I];exact ZzE _ Qa
   generalize x.co.length=L at*;clear hz I O aB aC hu hv h9 Z hg;go_wp2;refine Zbr w Qb Qb Qi ?_;intro aE aD;repeat (go_big_quiet_step (fail))
   refine wpQuiet_nil ?_;intro wb q J H;clear aE aD;simp only[World.size_alloc]at H;have n0:=Zx q (Zz m0 _);have n1:=Zx q (Zz m1 _);clear m0 m1 C0 C1 c0 c1 c2 c4;go_wp2;go_roundw;case rel=>exact⟨k+1,Qa,Qj,rfl,n0,n1,J⟩
   case measure=>exact Qv
  ·obtain rfl:k=N:=Qa
   have e:S k=R:=p.out;clear h;go_wp2;go_ret;exact⟨ZbG e,F⟩
end Go.Proofs
namespace Go.Proofs
open Go.RowKit
variable {w w':World} {base:Nat} {e:TypeId} {v:Value}
theorem Zsl(hb:QB w w'):w.grownBy w' none:=⟨hb.os,hb.tape,hb.output,hb.size,fun k h _=>hb.block k h⟩
theorem ZK{size:Nat} {n:Nat} {xs:List Value} (h:w.ownsRow base e size v n xs)(hb:QB w w'):w'.ownsRow base e size v n xs:=h.kept (Zsl hb) (by cases v.ownBlock<;>simp)
theorem Zma{α β:Type} (cs:α->List β)(sz:Nat)(p:∀x,(cs x).length=sz):∀(l:List α)(k j:Nat)(x:α)(v:β),l[k]?=some x->(cs x)[j]?=some v->(l.flatMap cs)[k*sz+j]?=some v|[],k,j,x,v,h,_=>by simp at h|a::l,0,j,x,v,h,hv=>by simp only[ZAk,ZCa]at h;subst h;rw[ZAb,ZB3,ZB1,ZAh (ZAp.1 hv).1];exact hv|a::l,k+1,j,x,v,h,hv=>by simp only[ZAj]at h;have q:=Zma cs sz p l k j x v h hv;rw[ZAb,ZAi (by rw[p];rw[ZBZ];omega),p,show (k+1)*sz+j-sz=k*sz+j by rw[ZBZ];omega];exact q
theorem ZdI{α:Type} {cs:α->List Value} {sz:Nat} {l:List α} (q:∀x,(cs x).length=sz)(h:w.ownsRow base e sz v l.length (l.flatMap cs)):∃A p,v=.slice A l.length p/\At sz cs w A l:=by
 rcases h.2 with⟨rfl,L⟩|⟨g,p,F,rfl,O,J,N,G,H,S⟩;·have:l=[]:=Zz2 L;subst this;exact⟨none,0,rfl,fun k x y=>by simp at y⟩
 ·refine⟨some ⟨g,0,none⟩,p,rfl,fun k x y=>⟨g,0,rfl,(Zyy.1 J).1,fun j u E=>?_⟩⟩;have I:=Zma cs sz q l k j x u y E;have R:j<sz:=by rw[<-q x];exact(ZAp.1 E).1
  have z:k<l.length:=(ZAp.1 y).1;have D:k*sz+j<l.length*sz:=by have:=ZBQ sz (Nat.succ_le_of_lt z);rw[ZBZ]at this;omega
  rw[ZB1,h.cellAt _ D];exact I
variable {w w' x x':World} {base size n sz b c:Nat} {e:TypeId} {v:Value} {xs:List Value} {row:Option Nat} {A:Option Addr}
theorem Z2(h:w.ownsRow base e size v n xs):∃A c,v=.slice A n c:=by
 rcases h.2 with⟨rfl,rfl⟩|⟨g,j,p,q,-⟩;·exact⟨none,0,rfl⟩
 ·exact⟨_,_,q⟩
theorem ZaN{j:Nat} (h:w.ownsRow j e size v n xs)(hb:base<=j):w.ownsRow base e size v n xs:=by
 refine⟨h.1,?_⟩;rcases h.2 with h|⟨g,p,q,u,y,z⟩;·exact .inl h
 ·exact .inr ⟨g,p,q,u,ZBG hb y,z⟩
theorem Zaq(h:w.ownsRow base e sz v n xs)(hb:∀g,v.ownBlock=some g->w'.heap[g]?=w.heap[g]?):w'.ownsRow base e sz v n xs:=by
 refine⟨h.1,?_⟩;rcases h.2 with h|⟨g,j,p,rfl,q,u,y⟩;·exact .inl h
 ·exact .inr ⟨g,j,p,rfl,q,(hb g rfl).trans u,y⟩
theorem ZeR(h:w.ownsRow base e sz v n xs)(j:w.grownBy w' row)(hne:∀g,v.ownBlock=some g->some g≠row):w'.ownsRow base e sz v n xs:=Zaq h fun g e=>j.block g (h.lt g e).2 (hne g e)
theorem Zay(h:w.ownsRow base e size v n xs)(hb:b<base):some b≠v.ownBlock:=by intro j;have:=(h.lt b j.symm).1;omega
theorem Zaz{o:Obj} (j:x.grownBy x' row)(h:x.heap[b]?=some o)(hne:some b≠row):x'.heap[b]?=some o:=(j.block b (lt_of_block h) hne).trans h
theorem ZT(h:QB w x)(j:x.grownBy x' row)(p:∀b,row=some b->w.heap.size<=b):QB w x':=h.grown j h.size p
theorem Zbd(w:World)(vs:List Value)(t:TypeId)(p:n=w.heap.size):∀j u,vs[j]?=some u->(w.alloc (.cells vs.toArray t)).cell? (Addr.add ⟨n,0,none⟩ j)=some u:=by
 subst p;intro j u q;have h:=heap_alloc_new w (.cells vs.toArray t);have e:Addr.add ⟨w.heap.size,0,none⟩ j=⟨w.heap.size,j,none⟩:=by unfold Addr.add;split<;>simp_all
 rw[e];unfold World.cell?;simp only[h];simpa using q
theorem ZcW(h:w.ownsRow base e 1 (.slice A n c) n xs) {k:Nat} {u:Value} (hu:xs[k]?=some u):∃g,A=some ⟨g,0,none⟩/\base<=g/\g<w.heap.size/\w.cell? ⟨g,k,none⟩=some u:=by
 rcases h.2 with⟨-,j⟩|⟨g,q,y,z,j,p,E,F,G,D⟩;·have:=h.1;rw[j,ZB3]at this;have:xs=[]:=Zz2 this;subst this;simp at hu
 ·cases z;refine⟨g,rfl,j,(Zyy.1 p).1,?_⟩;unfold World.cell?;simp only[p];have H:=(ZAp.1 hu).1;have:=h.1;rw[<-D,ZAw,if_pos Qa,ZyI]at hu;simpa using hu
theorem ZaA{l:List Int} (h:w.ownsRow base e 1 (.slice A n c) n (l.map (Value.int .i64))):At 1 Zc w A l:=by intro k x D;obtain⟨g,z,E,q,y⟩:=ZcW h (k:=k) (u:=.int .i64 x) (by rw[ZAq,D];rfl);refine⟨g,0,z,q,fun j v p=>?_⟩;cases j with|zero=>simp[Zc]at p;subst p;simpa using y|succ j=>simp[Zc]at p
theorem Zsm{P:Prop} (h:Hid P):P:=h.out
end Go.Proofs
namespace Go.Proofs
open Tryz
open Go.RowKit
variable {r:List (List Int)}
def qOf(h:Option Nat):Int:=match h with|none=>-1|some c=>(c:Int)
theorem ZgV(r:List (List Int))(j:Option Nat):Zcz r (qOf j)=colF r j:=by funext i c;unfold Zcz colF;cases j with
 |none=>
  have:¬((c:Int)=qOf none):=by show ¬((c:Int)=-1);omega
  rw[if_neg this,if_neg Qd]|some d=>
  unfold qOf;by_cases h:d=c;·subst h;simp
  ·have p:¬((c:Int)=(d:Int)):=Qa
   have q:¬(some d=some c):=by simpa using h
   rw[if_neg p,if_neg q]
def ZcA(r:List (List Int)):Prop:=∀row∈r,ZE 400 row
theorem ZcA.entR(h:ZcA r)(i j:Nat):(entR r i j).natAbs<=400:=by unfold Go.Proofs.entR;rw[ZAg (l:=r)];cases hi:r[i]? with|none=>simp|some row=>exact(h row (ZA5 hi)).get j
theorem ZcA.col(h:ZcA r)(q:Int)(n:Nat):ZdF (Zcz r q) n:=fun i j _ _=>h.entR _ _
theorem Zsn{f:Nat->Nat->Int} {n:Nat} (h:n<=5)(hf:ZdF f n):(ZW f n).natAbs<=32000000000000000:=by unfold ZW;have j:=ZB0 n;have:=ZiX h hf (2^n-1) Qa (2^n-1) (ZBF _);refine ZBG this ?_;have p:=ZeQ n (ZA8.2 Qa) (2^n-1) (ZA8.2 Qa);exact ZBG (ZBV Qa (show pop n (2^n-1)<=5 by omega)) Qc
def ZeS(r:List (List Int))(h:Nat)(e:Ending)(w':World):Prop:=match Za2 r with|none=>e=.returned (.tuple #[.slice none 0 0,(0:Int),false])|some (l,den)=>∃v,e=.returned (.tuple #[v,den,true])/\w'.ownsRow h 3 1 v l.length (l.map (Value.int .i64))
theorem Zso(A:Option Addr)(xs:List IR)(p:Nat)(h:Option Nat)(w:World)(j:ZbR w A xs)(u:∀x∈xs,x.l.length=xs.length+1)(q:1<=xs.length)(h5:xs.length<=5)(hs:ZcA (xs.map IR.l)):Calls prog 107 #[.slice A xs.length p,(qOf h)] w (Qt w (ZY (xs.map IR.l) h)):=by have:=Zsj A xs p xs.length (qOf h) w j rfl u q h5 (hs.col _ _);rw[ZgV]at this;unfold ZY;rw[ZAD];exact this
theorem Zmb(A:Option Addr)(xs:List IR)(cp:Nat)(w:World)(aC:ZbR w A xs)(hl:∀x∈xs,x.l.length=xs.length+1)(h1:1<=xs.length)(h5:xs.length<=5)(hs:ZcA (xs.map IR.l)):Calls prog 85 #[.slice A xs.length cp] w fun e w'=>ZeS (xs.map IR.l) w.heap.size e w'/\QB w w':=by
  have hD:=ZzG fun R W (hb:QB w W)=>Zso A xs cp R W (aC.below hb) hl h1 h5 hs;have aG:=ZzG fun R=>(by have:=Zsn h5 (hs.col (qOf R) xs.length);rw[ZgV]at this;unfold ZY;rw[ZAD];exact this:(ZY (xs.map IR.l) R).natAbs<=32000000000000000);have O:(xs.map IR.l).length=xs.length:=ZAD ..;obtain⟨N,hN⟩:=Qu xs.length;obtain⟨r,hr⟩:=Qu (xs.map IR.l);rw[hN]at hD h5 h1 O |-;rw[hr]at hD aG O |-;have aK:=ZzG O;clear aC hl hs hN hr O;have aF:=ZzG fun W hb=>hD.out none W hb;have aQ:=aG.out none;obtain⟨z,aJ⟩:=Qu (ZY r none);rw[aJ]at aF aQ;have aA:=ZzG aJ;by_cases hz:z=0
  · subst hz;go_enter func85,ntmps85;go_wp2_with (go_at_call 107;refine(aF.out _ (ZyU _ _)).mono ?_;rintro e w1 ⟨rfl,G⟩);refine bodyPost_ret (v:=.tuple #[.slice none 0 0,(0:Int),false]) ?_ rfl ⟨?_,G⟩;· simp[results,results85,go_sem]
    · unfold ZeS Za2;rw[if_pos aA.out]
  · have aT:(z==0)=false:=by simpa using hz
    have J:=ZzG (show Za2 r=some ((List.range N).map fun i=>ZaM z*ZY r (some i),ZaM z*z)from by unfold Za2;rw[if_neg (by rw[aA.out];exact hz),aA.out,aK.out]);obtain⟨i0,hi,aN,aO,aP⟩:=info_parts info3;clear aJ;by_cases aH:z<0
    · have aE:ZaM z=-1:=by unfold ZaM;rw[if_pos aH]
      obtain⟨L,hL⟩:∃L:Nat->List Int,(fun k=>(List.range k).map fun i=>ZaM z*ZY r (some i))=L:=⟨_,rfl⟩;have j:∀k,((List.range k).map fun i=>ZaM z*ZY r (some i))=L k:=fun k=>by rw[<-hL]
      have U:∀k,L (k+1)=L k++[-1*ZY r (some k)]:=fun k=>by rw[<-j,<-j,ZBh,aE];simp
      have F:∀k,(L k).length=k:=fun k=>by rw[<-j];simp
      have aI:L 0=[]:=Zz2 (F 0);have V:=ZzG U;have S:=ZzG F;rw[j]at J;have aS:IntKind.i64.wrap (-z)=-z:=ZzE _ Qa;clear hL j U F;go_enter func85,ntmps85;go_wp2_with (go_at_call 107;refine(aF.out _ (ZyU _ _)).mono ?_;rintro e w1 ⟨rfl,G⟩);go_loopw [7,17] (fun v i wr=>∃k:Nat,k<=N/\i=.int .i64 k/\wr.ownsRow w.heap.size 3 1 v k ((L k).map (Value.int .i64))/\QB w wr)(fun _ i _=>N-(intOf i).toNat);case atStart=>exact⟨0,ZB2 _,rfl,by rw[aI];exact World.ownsRow_nil _ _ _ _,G⟩
      case round=>
        clear G;obtain⟨k,hk,rfl,p,H⟩:=hrel;obtain⟨Av,cv,rfl⟩:=Z2 p;have q:=ZzG p;clear p;by_cases aL:k<N
        · have aR:(k:Int)<(N:Int):=Qa
          have E:=ZzG fun W hb=>hD.out (some k) W hb;have Y:=aG.out (some k);have hq:Hid (qOf (some k)=(k:Int)):=rfl;have hs:=V.out k;obtain⟨x,hx⟩:=Qu (ZY r (some k));rw[hx]at E Y hs;rw[hq.out]at E;have aM:IntKind.i64.wrap (-x)=-x:=ZzE _ Qa;have aD:=ZzG (show L (k+1)=L k++[-x]from by rw[hs];simp);clear hx hs hq;go_wp2_with (first
            | (go_at_call 107;refine(E.out _ H).mono ?_;rintro e w2 ⟨rfl,X⟩;have D:=via H X;have h:=ZzG (ZK q.out X))|(at_builtin;refine wpList_append_own _ rfl _ _ 31 rfl w.heap.size 3 i0 (.int .i64 0) 1 8 underlying31 hi aN aO aP rfl Qc _ _ _ rfl (h.out.alloc _) ⟨w2.heap.size,0,none⟩ 1 1 [.int .i64 (-x)] rfl rfl ?c1 ?c2 ?c3 ?c4 ?c5 ?_));case c1=>exact Zbd _ [.int .i64 (-x)] _ Qd
          case c2=>intro u hu;simp at hu;subst hu;rfl
          case c3=>unfold maxLen;omega
          case c4=>omega
          case c5=>have:=D.size;simp;omega
          intro v' w3 y aB _;have Z:QB w w3:=ZT (via D (ZC _ _)) aB fun b e=>(h.out.lt b e).1;have I:Hid (w3.ownsRow w.heap.size 3 1 v' (k+1) ((L (k+1)).map (Value.int .i64))):=ZzG (by rw[aD.out,ZAL];exact y);clear y aB h aD Y aM;go_wp2;go_roundw;case rel=>exact⟨k+1,Qa,Qj,I.out,Z⟩
          case measure=>exact Qv
        · obtain rfl:k=N:=Qa
          clear aL;go_wp2;refine bodyPost_ret (v:=.tuple #[.slice Av k cv,.int .i64 (-z),true]) ?_ rfl ⟨?_,H⟩;· simp[results,results85,go_sem]
          · unfold ZeS;rw[J.out];exact⟨.slice Av k cv,by rw[aE];simp,by rw[S.out];exact q.out⟩
    · have aE:ZaM z=1:=by unfold ZaM;rw[if_neg aH]
      obtain⟨L,hL⟩:∃L:Nat->List Int,(fun k=>(List.range k).map fun i=>ZaM z*ZY r (some i))=L:=⟨_,rfl⟩;have j:∀k,((List.range k).map fun i=>ZaM z*ZY r (some i))=L k:=fun k=>by rw[<-hL]
      have U:∀k,L (k+1)=L k++[1*ZY r (some k)]:=fun k=>by rw[<-j,<-j,ZBh,aE];simp
      have F:∀k,(L k).length=k:=fun k=>by rw[<-j];simp
      have aI:L 0=[]:=Zz2 (F 0);have V:=ZzG U;have S:=ZzG F;rw[j]at J;have aS:IntKind.i64.wrap (z)=z:=ZzE _ Qa;clear hL j U F;go_enter func85,ntmps85;go_wp2_with (go_at_call 107;refine(aF.out _ (ZyU _ _)).mono ?_;rintro e w1 ⟨rfl,G⟩);go_loopw [7,17] (fun v i wr=>∃k:Nat,k<=N/\i=.int .i64 k/\wr.ownsRow w.heap.size 3 1 v k ((L k).map (Value.int .i64))/\QB w wr)(fun _ i _=>N-(intOf i).toNat);case atStart=>exact⟨0,ZB2 _,rfl,by rw[aI];exact World.ownsRow_nil _ _ _ _,G⟩
      case round=>
        clear G;obtain⟨k,hk,rfl,p,H⟩:=hrel;obtain⟨Av,cv,rfl⟩:=Z2 p;have q:=ZzG p;clear p;by_cases aL:k<N
        · have aR:(k:Int)<(N:Int):=Qa
          have E:=ZzG fun W hb=>hD.out (some k) W hb;have Y:=aG.out (some k);have hq:Hid (qOf (some k)=(k:Int)):=rfl;have hs:=V.out k;obtain⟨x,hx⟩:=Qu (ZY r (some k));rw[hx]at E Y hs;rw[hq.out]at E;have aM:IntKind.i64.wrap (x)=x:=ZzE _ Qa;have aD:=ZzG (show L (k+1)=L k++[x]from by rw[hs];simp);clear hx hs hq;go_wp2_with (first
            | (go_at_call 107;refine(E.out _ H).mono ?_;rintro e w2 ⟨rfl,X⟩;have D:=via H X;have h:=ZzG (ZK q.out X))|(at_builtin;refine wpList_append_own _ rfl _ _ 31 rfl w.heap.size 3 i0 (.int .i64 0) 1 8 underlying31 hi aN aO aP rfl Qc _ _ _ rfl (h.out.alloc _) ⟨w2.heap.size,0,none⟩ 1 1 [.int .i64 (x)] rfl rfl ?c1 ?c2 ?c3 ?c4 ?c5 ?_));case c1=>exact Zbd _ [.int .i64 (x)] _ Qd
          case c2=>intro u hu;simp at hu;subst hu;rfl
          case c3=>unfold maxLen;omega
          case c4=>omega
          case c5=>have:=D.size;simp;omega
          intro v' w3 y aB _;have Z:QB w w3:=ZT (via D (ZC _ _)) aB fun b e=>(h.out.lt b e).1;have I:Hid (w3.ownsRow w.heap.size 3 1 v' (k+1) ((L (k+1)).map (Value.int .i64))):=ZzG (by rw[aD.out,ZAL];exact y);clear y aB h aD Y aM;go_wp2;go_roundw;case rel=>exact⟨k+1,Qa,Qj,I.out,Z⟩
          case measure=>exact Qv
        · obtain rfl:k=N:=Qa
          clear aL;go_wp2;refine bodyPost_ret (v:=.tuple #[.slice Av k cv,(z),true]) ?_ rfl ⟨?_,H⟩;· simp[results,results85,go_sem]
          · unfold ZeS;rw[J.out];exact⟨.slice Av k cv,by rw[aE];simp,by rw[S.out];exact q.out⟩
end Go.Proofs
namespace Go.Proofs
variable {n K k:Nat} {l W ws:List Int} {den lev x g:Int} {es:List Ex}
def Zed:Nat->Nat|0=>1|n+1=>(n+1)*Zed n
theorem ZiZ{f:Nat->Nat->Int} {M:List Int} {row set Z:Nat}:∀(c:Nat)(acc p:Int),(p=1∨p=-1)->(∀j,j<c->(f row j).natAbs<=400)->(∀j,j<c->(set>>>j)%2=1->(M.getD (set-2^j) 0).natAbs<=Z)->(ZaU f M row set c acc p).natAbs<=acc.natAbs+pop c set*(400*Z)
 |0,acc,_,_,_,_=>by unfold ZaU;omega|c+1,acc,p,hs,hf,hM=>by
  unfold ZaU pop;have y:(-p=1∨-p=-1):=Qa
  split;·rename_i z;have:=ZiZ c acc p hs (fun j u=>hf j Qa) fun j u=>hM j Qa;rw[z,ZBz];exact this
  ·rename_i z;have q:(set>>>c)%2=1:=Qa
   have E:=Zaf (hf c Qa) (hM c Qa q);have D:∀h,h.natAbs<=acc.natAbs+400*Z->(ZaU f M row set c h (-p)).natAbs<=acc.natAbs+(pop c set+1)*(400*Z):=fun h F=>by have:=ZiZ c h (-p) y (fun j u=>hf j Qa) fun j u=>hM j Qa;rw[ZBw];omega
   rw[q];refine D _ ?_;split;·omega
   ·rw[Int.mul_assoc];rcases hs with rfl|rfl<;>omega
theorem Zi0{f:Nat->Nat->Int} {n:Nat} (E:n<=5)(hf:ZdF f n):∀s,s<2^n->∀k,k<=s->((dpM f n s).getD k 0).natAbs<=Zed (pop n k)*400^pop n k
 |0,_,k,hk=>by
  obtain rfl:k=0:=Qa
  have:∀m,pop m 0=0:=fun m=>by induction m with|zero=>rfl|succ m u=>unfold pop;rw[u];simp
  rw[this];simp[dpM,Zed]|s+1,hs,k,hk=>by
  have u:=Zi0 E hf s Qa;have N:=Zdf f n s;unfold dpM;by_cases z:k<=s;·rw[Zl7 Qa];exact u k z
  ·obtain rfl:k=s+1:=Qa
   rw[ZiW Qa];have h:n∈List.range 6:=ZA8.2 Qa;have q:s+1∈List.range (2^n):=ZA8.2 hs;have G:=Zl6 n h _ q Qa;have H:=ZeQ n h _ q;unfold Zcp;have:=ZiZ (f:=f) (M:=dpM f n s) (row:=pop n (s+1)-1) (set:=s+1) (Z:=Zed (pop n (s+1)-1)*400^(pop n (s+1)-1)) n 0 1 (.inl rfl) (fun j y=>hf _ _ Qa y) fun j y D=>by obtain⟨I,J⟩:=ZiU n h _ q j (ZA8.2 y) D;have L:=ZB0 j;have:=u (s+1-2^j) Qa;rwa [show pop n (s+1-2^j)=pop n (s+1)-1 by omega]at this
   refine ZBG this ?_;obtain⟨p,F⟩:∃p,pop n (s+1)=p+1:=⟨pop n (s+1)-1,Qa⟩;rw[F];simp only[ZBx,Int.natAbs_zero,ZB1,Nat.pow_succ,Zed];refine ZBE ?_;ac_rfl
theorem Zsp{f:Nat->Nat->Int} (j:n<=5)(hf:ZdF f n):(ZW f n).natAbs<=1228800000000000:=by
 unfold ZW;have q:=ZB0 n;have:=Zi0 j hf (2^n-1) Qa (2^n-1) (ZBF _);refine ZBG this ?_;have u:=ZeQ n (ZA8.2 Qa) (2^n-1) (ZA8.2 Qa);have h:pop n (2^n-1)<=5:=Qa
 generalize pop n (2^n-1)=p at h;have:∀p,p<=5->Zed p*400^p<=1228800000000000:=Qc
 exact this p h
theorem Zi1{r:List (List Int)} (h:Za2 r=some (l,den))(h5:r.length<=5)(hs:ZcA r):l.length=r.length/\den.natAbs<=1228800000000000/\0<den/\ZE 1228800000000000 l:=by
 have q:∀j,(ZY r j).natAbs<=1228800000000000:=fun j=>by have:=Zsp h5 (hs.col (qOf j) r.length);rw[ZgV]at this;exact this
 have p:∀d x:Int,(ZaM d*x).natAbs=x.natAbs:=fun d x=>by unfold ZaM;split<;>omega
 unfold Za2 at h;split at h;·cases h
 rename_i y;obtain⟨rfl,rfl⟩:_/\_:=by simpa using h
 refine⟨Qd,by rw[p];exact q _,?_,fun x u=>?_⟩;·unfold ZaM;split<;>omega
 ·obtain⟨i,-,rfl⟩:=ZA3.1 u;rw[p];exact q _
theorem ZM.at'{T:TypeId} {W:World} {B:Nat} (h:ZM T W B l):At 1 Zc W (some ⟨B,0,none⟩) l:=by intro k x q;refine⟨B,0,rfl,h.size,fun j v p=>?_⟩;cases j with|zero=>simp[Zc]at p;subst p;simpa using h.load q|succ j=>simp[Zc]at p
theorem Zmc(h:ZE K l):∀(t:List Nat)(k:Nat)(W:List Int),ZE K W->ZE K (putW l k t W):=by intro t;induction t<;>grind[ZE,putW]
theorem Zsq(l:List Int):∀(t:List Nat)(k:Nat)(W:List Int)(i:Nat),putW l k (t++[i]) W=(putW l k t W).set i (l.getD (k+t.length+1) 0):=by intro t;induction t<;>grind[putW]
theorem Zsr(l:List Int) {t:List Nat} {i:Nat} (h:t[k]?=some i):putW l 0 (t.take (k+1)) W=(putW l 0 (t.take k) W).set i (l.getD (k+1) 0):=by have j:k<t.length:=(ZAp.1 h).1;rw[ZBn,h];have:=Zsq l (t.take k) 0 W i;rwa [ZAH,ZBN Qa,ZB1]at this
theorem Zss(hk:k<n)(h:l.getD (k+1) 0<0):(List.range n).any (fun k=>l.getD (k+1) 0<0)=true:=by rw[ZzM];exact⟨k,ZA8.2 hk,by simpa using h⟩
theorem Zst(h:∀k,k<n->¬(l.getD (k+1) 0<0)):(List.range n).any (fun k=>l.getD (k+1) 0<0)=false:=by rw[ZzL];intro k j;simpa using h k (ZA8.1 j)
theorem Zi2(es:List Ex)(den lev:Int)(W:List Int):∀(ws:List Int)(p:Nat),Zce es den lev W p ws=true↔∀j,j<ws.length->lev<=ws.getD j 0*den+putsL es W (p+j)
 |[],_=>by simp[Zce]|w::ws,p=>by
  unfold Zce;rw[ZyW,decide_eq_true_eq,Zi2 es den lev W ws (p+1)];constructor;·rintro⟨u,y⟩ j q;cases j with|zero=>simpa using u|succ j=>have:=y j (by simpa using q);rwa [show p+1+j=p+(j+1)by omega]at this
  ·intro h;refine⟨by simpa using h 0 Qd,fun j q=>?_⟩;have:=h (j+1) (by simpa using q);rwa [show p+(j+1)=p+1+j by omega]at this
theorem Zsu{j:Nat} (q:j<ws.length)(h:ws.getD j 0*den+putsL es W j<lev):Zce es den lev W 0 ws=false:=by rw[Bool.eq_false_iff];intro p;have:=(Zi2 es den lev W ws 0).1 p j q;rw[ZB1]at this;omega
theorem Zsv(h:∀j,j<ws.length->¬(ws.getD j 0*den+putsL es W j<lev)):Zce es den lev W 0 ws=true:=(Zi2 es den lev W ws 0).2 fun j p=>by have:=h j p;rw[ZB1];omega
theorem ZfP(h0:0<g)(j:g∣x):x.tdiv g=x / g/\(x / g).natAbs<=x.natAbs:=by
 obtain⟨y,rfl⟩:=j;have h:g≠0:=Qa
 rw[Int.mul_tdiv_cancel_left _ h,Zzs _ h];refine⟨rfl,?_⟩;rw[Zzz];exact Nat.le_mul_of_pos_left _ Qa
theorem Zdg(h0:0<g)(j:g∣x)(hx:x.natAbs<=K)(q:K<=9000000000000000000):IntKind.i64.wrap (x.tdiv g)=x / g:=by obtain⟨h,p⟩:=ZfP h0 j;rw[h];exact ZzE _ Qa
theorem Zsw{w:World} {R base:Nat} (h:ZM 3 w R l)(j:l.length=n)(p:n<=1000)(hb:base<=R):w.ownsRow base 3 1 (.slice (some R) n n) n (l.map (Value.int .i64)):=by refine⟨by simpa using j,.inr ⟨R,n,_,rfl,hb,h,ZBF _,Qq,by rw[ZrR];omega,?_⟩⟩;simp only[ZaL,ZBR,ZBl,List.toList_toArray];rw[ZBp Qk]
theorem Zmd(h:k<W.length):(((W.take k).map (· / g))++W.drop k).set k (W.getD k 0 / g)=(W.take (k+1)).map (· / g)++W.drop (k+1):=by have j:=ZAm h;rw[ZAg,j,ZBn,j,ZzY h,ZBk _ _ Qk,ZAL,ZzN];rw[show k-((W.take k).map (· / g)).length=0 from Qk];rfl
theorem Zme(h:k<W.length):(((W.take k).map (· / g))++W.drop k)[k]?=some (W.getD k 0):=Qn
end Go.Proofs
namespace Go.Proofs
open Tryz
open Go.RowKit
theorem Zmf(s:ByteArray)(w:World)(hs:s.size<=9223372036854775807):Calls prog 87 #[.string s] w fun e w'=>e=.returned (Zau s.data.toList)/\w=w':=by
  have h:Hid (s.data.toList.length=s.size):=by simp[Hid]
  by_cases O:s.size<1
  · have L:(s.size:Int)<1:=Qa
    have z:Zau s.data.toList=false:=by unfold Zau;rw[h.out];simp;omega
    rw[z];clear z h;go_enter func87,ntmps87;go_wp2;go_ret;exact⟨rfl,rfl⟩
  · have L:¬(s.size:Int)<1:=Qa
    by_cases R:12<s.size
    · have N:12<(s.size:Int):=Qa
      have z:Zau s.data.toList=false:=by unfold Zau;rw[h.out];simp;omega
      rw[z];clear z h;go_enter func87,ntmps87;go_wp2;go_ret;exact⟨rfl,rfl⟩
    · have N:¬12<(s.size:Int):=Qa
      go_enter func87,ntmps87;go_wp2;go_loop [3] (fun i=>∃k:Nat,k<=s.size/\i=.int .i64 k/\Hid (∀j,j<k->ZbQ j ((s.data.toList.getD j 0).toNat:Int)=true))(fun i=>s.size-(intOf i).toNat);case atStart=>exact⟨0,ZB2 _,rfl,fun j F=>Qa⟩
      case round=>
        obtain⟨k,S,rfl,y⟩:=hrel;by_cases q:k<s.size
        · obtain⟨c,J⟩:∃c:UInt8,s[k]'q=c:=⟨_,rfl⟩;have p:Hid (s.data.toList.getD k 0=c):=by unfold Hid;rw[<-J,ZAg,ZAm (by rw[h.out];exact q)];simp;rfl
          have I:(0:Int)<=(c.toNat:Int):=Qa
          by_cases D:k=0
          · have G:((k:Int)==0)=true:=by simp[D]
            have u:=ZzG D;clear D;go_wp2;all_goals first
              |(exfalso;have:=u.out;simp at*;omega)
              | (go_round;case rel=>exact⟨k+1,Qa,Qj,Ziz y p (ZiB _ _ (by have:=u.out;simp at*;omega))⟩
                 case measure=>simp[intOf];omega)|(go_ret;exact⟨ZcS (ZiA (k:=k) h q p (ZiC _ _ (by have:=u.out;simp at*;omega))).symm,rfl⟩)
          · have G:((k:Int)==0)=false:=by simp[D]
            go_wp2;all_goals first
              |(exfalso;simp at*;omega)
              | (go_round;case rel=>exact⟨k+1,Qa,Qj,Ziz y p (ZiB _ _ (by simp at*;omega))⟩
                 case measure=>simp[intOf];omega)|(go_ret;exact⟨ZcS (ZiA (k:=k) h q p (ZiC _ _ (by simp at*;omega))).symm,rfl⟩)
        · have H:k=s.size:=Qa
          subst H;have E:Zdd s.data.toList=true:=ZlL _ (fun j F=>y.out j (by rw[h.out]at F;exact F));have z:Zau s.data.toList=true:=by unfold Zau;rw[E,h.out];simp;omega
          go_wp2;go_ret;exact⟨rfl,rfl⟩
def Zb2(lo hi m:Int):Int:=Z4 [unl (Z1 lo 0 m&&Z1 hi 0 m) 2,unl (decide (lo<=hi)) 9]
end Go.Proofs
namespace Go.Proofs
open Go.RowKit
section
variable {P:Program} {ops:Array Oper}
def Zav(ops:Array Oper):Bool:=(List.range ops.size).all fun i=>match ops[i]? with|none=>true|some o=>((o.looksAt ops).all fun s=>(List.range ops.size).all fun j=>match ops[j]? with|none=>true| some oj => oj.dst != some s || (decide (j < i) && o.after.any fun e => Region.binds .any e && e.on == j)) && ((List.range ops.size).all fun j=>match ops[j]? with|none=>true| some oj => j == i || o.dst.isNone || oj.dst != o.dst) && (o.after.all fun e=>!Region.binds .any e||decide (e.on<i))
structure SlotsOk (ops:Array Oper):Prop where
 look:∀(i:Nat)(o:Oper)(s j:Nat)(oj:Oper),ops[i]?=some o->s∈o.looksAt ops->ops[j]?=some oj->oj.dst=some s->j<i/\∃e∈o.after,Region.binds .any e=true/\e.on=j
 dst:∀(i j:Nat)(o oj:Oper)(s:Nat),ops[i]?=some o->ops[j]?=some oj->o.dst=some s->oj.dst=some s->j=i
 after:∀(i:Nat)(o:Oper)(e:Edge),ops[i]?=some o->e∈o.after->Region.binds .any e=true->e.on<i
theorem ZbS{i:Nat} {o:Oper} (h:ops[i]?=some o):i<ops.size:=(Zyy.1 h).1
theorem Zmg(h:Zav ops=true):SlotsOk ops:=by
 unfold Zav at h;simp only[ZzJ,ZA8]at h;refine⟨fun i o s j I hi H u z=>?_,fun i j o I s hi u z D=>?_,fun i o e hi E y=>?_⟩;·have p:=h i (ZbS hi);simp only[hi,ZyW,ZzJ,ZA8]at p;have q:=p.1.1 s H j (ZbS u);simp only[u,z,Zy5,ZyW,decide_eq_true_eq,bne_self_eq_false,Zy0,false_or]at q;obtain⟨F,G⟩:=q;obtain⟨e,E,y⟩:=Array.any_eq_true'.1 G;simp only[ZyW,beq_iff_eq]at y;exact⟨F,e,E,y⟩
 ·have p:=h i (ZbS hi);simp only[hi,ZyW,ZzJ,ZA8]at p;have q:=p.1.2 j (ZbS u);simpa [u,z,D] using q
 ·have p:=h i (ZbS hi);simp only[hi,ZyW]at p;have q:=Zym.1 p.2 e E;simpa [y] using q
theorem Zsx{a b:Act} (h:a.defers=b.defers)(j:∀s:Nat,a.tmps[s]?=b.tmps[s]?):a=b:=by obtain⟨t,d⟩:=a;obtain⟨p,q⟩:=b;dsimp only at h j;subst h;have:t=p:=Zyq j;subst this;rfl
theorem Zsy{a b:Act} {x:Operand} (h:∀t:Nat,x=.tmp t->a.tmps[t]?=b.tmps[t]?):a.eval x=b.eval x:=by cases x with|tmp t=>have:=h t rfl;simp[Act.eval,this]|_=>rfl
theorem Zmh{o:Oper} {a b:Act} (j:∀cs b,o.op≠.select cs b)(h:∀s∈o.looksAt ops,a.tmps[s]?=b.tmps[s]?):execOp a.eval o=execOp b.eval o:=execOp_congr o j fun x q=>Zsy fun t p=>h t (by subst p;exact ZAV _ (List.mem_filterMap.2 ⟨.tmp t,by simpa using q,rfl⟩))
theorem Zmi{o:Oper} {a b:Act} (h:∀s∈o.looksAt ops,a.tmps[s]?=b.tmps[s]?):Region.wanted o (yielded ops a.tmps)=Region.wanted o (yielded ops b.tmps):=by unfold Region.wanted;cases p:o.guard with
 |none=>rfl|some gw=>
  obtain⟨g,j⟩:=gw;have u:yielded ops a.tmps g=yielded ops b.tmps g:=by unfold yielded;cases q:(ops[g]?).bind (·.dst)with
   |none=>rfl|some t=>have:=h t (by simp[Oper.looksAt,p,q]);simp[this]
  simp only[u]
theorem Zmj{C:World->Prop} {o:Oper} {v:Value} {a b:Act} (j:∀cs b,o.op≠.select cs b)(h:∀s∈o.looksAt ops,a.tmps[s]?=b.tmps[s]?)(p:YieldsIn P ops C o v a):YieldsIn P ops C o v b:=p.of_same (Zmh j h).symm (Zmi h).symm
theorem ZgW{a:Act} {d:Option Tmp} {v:Value} {s:Nat} (h:d≠some s):(a.put d v).tmps[s]?=a.tmps[s]?:=by cases d with|none=>rfl|some d=>have j:d≠s:=fun e=>h (by rw[e]);simp[Act.put,ZyG j]
theorem ZgX{a:Act} {d:Option Tmp} {v:Value}:(a.put d v).tmps.size=a.tmps.size:=by cases d<;>simp[Act.put]
theorem Zi3{a:Act} {d:Option Tmp} {v:Value}:(a.put d v).defers=a.defers:=by cases d<;>rfl
theorem Zi4{a:Act} {d:Nat} {v:Value} (h:d<a.tmps.size):(a.put (some d) v).tmps[d]?=some v:=by simp[Act.put,h]
theorem Zmk{a:Act} {d:Nat} {v:Value} (h:¬d<a.tmps.size):(a.put (some d) v).tmps[d]?=none:=by simp[Act.put];omega
theorem Zml(H:SlotsOk ops)(y:∀(j:Nat)(o:Oper) cs b,ops[j]?=some o->o.op≠.select cs b) {C:World->Prop} {q:Act}:∀(l:List Oper)(k:Nat)(a:Act),(∀j,l[j]?=ops[k+j]?)->wpQuiet P ops C (fun F=>F=q) l a->(∀i o,k<=i->ops[i]?=some o->∃v,YieldsIn P ops C o v q/\∀d,o.dst=some d->d<q.tmps.size->q.tmps[d]?=some v)/\a.tmps.size=q.tmps.size/\a.defers=q.defers/\∀s,(∀j p,k<=j->ops[j]?=some p->p.dst≠some s)->a.tmps[s]?=q.tmps[s]?
 |[],k,a,hl,h=>by have X:a=q:=h;subst X;refine⟨fun i o hi z=>?_,rfl,rfl,fun s _=>rfl⟩;have:=hl (i-k);rw[show k+(i-k)=i by omega,z]at this;simp at this|o::rest,k,a,hl,h=>by
  have u:ops[k]?=some o:=by simpa using (hl 0).symm
  have Z:qOp P ops C k (wpQuiet P ops C (fun F=>F=q) rest) a:=by unfold qOp;simp only[u];exact h
  obtain⟨v,hy,Y⟩:=yieldsIn_of_qOp u Z;obtain⟨i1,U,i3,R⟩:=Zml H y rest (k+1) (a.put o.dst v) (fun j=>by have:=hl (j+1);rw[ZAj]at this;rw[this];congr 1;omega) Y;have G:∀s∈o.looksAt ops,a.tmps[s]?=q.tmps[s]?:=fun s E=>by
   have S:∀j p,k<=j->ops[j]?=some p->p.dst≠some s:=fun j p L z D=>by have:=(H.look k o s j p u E z D).1;omega
   rw[<-R s (fun j p L=>S j p Qa),ZgW (S k o (ZBF _) u)]
  refine⟨fun i V hi z=>?_,by rw[<-U,ZgX],by rw[<-i3,Zi3],fun s E=>?_⟩
  ·by_cases J:i=k;·subst J;obtain rfl:o=V:=ZB9 (u.symm.trans z);refine⟨v,Zmj (y _ _ · · u) G hy,fun d D N=>?_⟩;rw[<-R d (fun j p L O I=>by have:=H.dst i j o p d u O D I;omega),D];exact Zi4 (by rw[<-ZgX (a:=a) (d:=o.dst) (v:=v),U];exact N)
   ·exact i1 i V Qa z
  ·rw[<-R s (fun j p L=>E j p Qa),ZgW (E k o (ZBF _) u)]
def ZgY(n:Nat)(h:Array Bool):Nat:=((List.range n).filter fun j=>!h.getD j true).length
theorem Zsz{α:Type} {p q:α->Bool}:∀(l:List α),(∀x,q x=true->p x=true)->(l.filter q).length<=(l.filter p).length:=by intro l;induction l<;>grind
theorem Zmm{α:Type} {p q:α->Bool}:∀(l:List α),(∀x,q x=true->p x=true)->(∃x∈l,p x=true/\q x=false)->(l.filter q).length<(l.filter p).length
 |[],_,h=>by obtain⟨x,z,_⟩:=h;cases z|y::l,h,z=>by
  obtain⟨x,u,D,E⟩:=z;simp only[Zz7];rcases ZAX.1 u with rfl|u;·rw[if_neg (by rw[E];decide),if_pos D];have:=Zsz l h;simp only[ZAB];omega
  ·have F:=Zmm l h ⟨x,u,D,E⟩;by_cases j:q y=true;·rw[if_pos j,if_pos (h y j)];simpa using F
   ·rw[if_neg j];split;·simp only[ZAB];omega
    ·exact F
theorem Zmn{n i:Nat} {p:Array Bool} (hi:i<n)(h:p.getD i true=false):ZgY n (p.setIfInBounds i true)<ZgY n p:=by
 refine Zmm _ (fun j u=>?_) ⟨i,ZA8.2 hi,by simp[h],?_⟩
 ·by_cases q:i=j;·subst q;simp[h]
  ·rw[getD_set_ne true q]at u;exact u
 ·have:(p.setIfInBounds i true).getD i true=true:=by simp only[Zyt,ZyF];by_cases y:i<p.size<;>simp[y]
  rw[this];rfl
end
section
variable {P:Program} {ops:Array Oper}
def ZeT(ops:Array Oper)(h:Array Bool)(a b:Act):Prop:=a.tmps.size=b.tmps.size/\a.defers=b.defers/\∀s:Nat,(∀(j:Nat)(p:Oper),ops[j]?=some p->p.dst=some s->h.getD j true=true)->a.tmps[s]?=b.tmps[s]?
theorem ZfQ{p:Array Bool} {j:Nat} (h:p.getD j false=true):p.getD j true=true:=Qn
theorem ZsA(H:SlotsOk ops) {p:Array Bool} {a b:Act} (h:ZeT ops p a b) {i:Nat} {o:Oper} (hi:ops[i]?=some o)(G:i∈Region.ready .any ops p):∀s∈o.looksAt ops,a.tmps[s]?=b.tmps[s]?:=fun s I=>h.2.2 s fun j L F D=>by obtain⟨_,e,E,z,y⟩:=H.look i o s j L hi I F D;obtain⟨_,J,u,q⟩:=mem_ready.1 G;obtain rfl:o=J:=ZB9 (hi.symm.trans u);have:=q e E z;rw[y]at this;exact ZfQ this
theorem Zmo(H:SlotsOk ops) {p:Array Bool} {a b:Act} (h:ZeT ops p a b) {i:Nat} {o:Oper} (hi:ops[i]?=some o) {v:Value} (hv:∀s,o.dst=some s->s<b.tmps.size->b.tmps[s]?=some v):ZeT ops (p.setIfInBounds i true) (a.put o.dst v) b:=by
 refine⟨by rw[ZgX];exact h.1,by rw[Zi3];exact h.2.1,fun s F=>?_⟩;by_cases y:o.dst=some s
 ·rw[y];by_cases q:s<b.tmps.size;·rw[Zi4 (by rw[h.1];exact q),hv s y q]
  ·rw[Zmk (by rw[h.1];exact q),Zyx Qa]
 ·rw[ZgW y];refine h.2.2 s fun j E D u=>?_;have z:i≠j:=by rintro rfl;obtain rfl:o=E:=ZB9 (hi.symm.trans D);exact y u
  have:=F j E D u;rwa [getD_set_ne true z]at this
def above(u:World):World->Prop:=fun x=>QB u x
def Before(ops:Array Oper)(w:World)(m k:Nat)(j:Act)(h:Array Bool)(a:Act)(x:World):Prop:=h.getD m true=false/\h.getD k true=false/\ZeT ops h a j/\QB w x
theorem ZsB{C:World->Prop} {Q:Exit->Act->World->Prop} {i:Nat} {o:Oper} {v:Value} {a:Act} {x:World} {K:Act->World->Prop} (hi:ops[i]?=some o)(y:YieldsIn P ops C o v a)(q:C x)(h:∀x',C x'->K (a.put o.dst v) x'):wpOp P ops Q i K a x:=wpOp_of_qOp (K:=fun p=>p=a.put o.dst v) q (fun p w' j u=>by subst u;exact h w' j) (y.qOp hi rfl)
theorem ZsC(H:SlotsOk ops) {p:Array Bool} (hz:p.size=ops.size)(h:Region.ready .any ops p=[]):∀j,j<ops.size->p.getD j true=true:=by intro j;induction j using Nat.strongRecOn with|_ j ih=>intro u;cases F:p.getD j true with
  |true=>rfl|false=>exfalso;have:j∈Region.ready .any ops p:=mem_ready.2 ⟨F,ops[j],Zyw u,fun e E D=>by
    have y:=H.after j _ e (Zyw u) E D;have q:=ih e.on y Qa;have z:e.on<p.size:=Qa
    simp[z]at q |-;exact q⟩;rw[h]at this;cases this
theorem ZsD{p:Array Bool} {a b:Act} (h:ZeT ops p a b)(hu:∀j,j<ops.size->p.getD j true=true):a=b:=Zsx h.2.1 fun s=>h.2.2 s fun j u q _=>hu j (ZbS q)
end
theorem ZsE(u:World):above u=fun w'=>∃x:Grew u,w'=x.val:=by funext w';exact propext ⟨fun h=>⟨⟨w',h⟩,rfl⟩,fun⟨x,j⟩=>by subst j;exact x.ok⟩
section
variable {P:Program} {ops:Array Oper}
theorem Zi5{h:Array Bool} (j:Nat):(h.setIfInBounds j true).getD j true=true:=Qd
end
section
variable {P:Program} {ops:Array Oper}
def yieldsC(v:Value)(o:Oper):Oper:={o with op:=.move (.const v)}
end
section
variable {P:Program} {ops:Array Oper}
structure Gh where
 b:Nat
 a1:Option Addr
 a2:Option Addr
 a3:Option Addr
 c1:Nat
 c2:Nat
 c3:Nat
def Gh.zero:Gh:=⟨0,none,none,none,0,0,0⟩
def upd(g:Nat->Gh)(j:Nat)(h:Gh):Nat->Gh:=fun k=>if k=j then h else g k
def Za7(L:Nat->Bool)(j:Nat):Nat->Bool:=fun k=>k==j||L k
def mixL(sp:List Nat)(h:Nat->Gh->Value)(g:Nat->Gh):Nat->List Oper->List Oper|_,[]=>[]|i,o::l=>(if sp.contains i then yieldsC (h i (g i)) o else o)::mixL sp h g (i+1) l
theorem Zee(sp:List Nat) (h:Nat->Gh->Value) (g:Nat->Gh):∀(l:List Oper) (i j:Nat),(mixL sp h g i l)[j]?=(l[j]?).map fun o=>if sp.contains (i+j)then yieldsC (h (i+j) (g (i+j))) o else o:=by intro l;induction l<;>grind[mixL,yieldsC]
def ZaF(ops:Array Oper)(j:Nat):Nat->List Oper->List Nat->List Nat|_,[],acc=>acc|i,o::l,acc=>ZaF ops j (i+1) l (if i==j||(o.looksAt ops).any acc.contains then (match o.dst with|some d=>d::acc|none=>acc)else acc)
theorem Zmp{j:Nat} {G:Nat->Prop} (y:∀(i:Nat)(o:Oper)(d:Nat),ops[i]?=some o->o.dst=some d->(i=j∨∃s∈o.looksAt ops,G s)->G d):∀(l:List Oper)(i:Nat)(acc:List Nat),(∀k,l[k]?=ops[i+k]?)->(∀d∈acc,G d)->∀d∈ZaF ops j i l acc,G d
 |[],i,acc,_,ha,d,hd=>ha d hd|o::l,i,acc,hl,ha,d,hd=>by
  unfold ZaF at hd;refine Zmp y l (i+1) _ (fun k=>by have:=hl (k+1);rw[ZAj]at this;rw[this];congr 1;omega) ?_ d hd;intro u p;split at p;·rename_i z;cases q:o.dst with|none=>rw[q]at p;exact ha u p|some e=>
    rw[q]at p;rcases ZAX.1 p with rfl|F
    ·refine y i o u (by simpa using (hl 0).symm) q ?_;simp only[Zy5,beq_iff_eq,ZzM,List.contains_iff_mem]at z;rcases z with h|⟨s,D,E⟩;·exact .inl h
     ·exact .inr ⟨s,D,ha s E⟩
    ·exact ha u F
  ·exact ha u p
def ZaB(cs:List Nat):Nat->List Value->List Value|_,[]=>[]|i,v::l=>(if cs.contains i then undef else v)::ZaB cs (i+1) l
theorem ZsF(cs:List Nat):∀(l:List Value)(i s:Nat),(ZaB cs i l)[s]?=(l[s]?).map fun v=>if cs.contains (i+s)then undef else v:=by intro l;induction l<;>grind[ZaB]
theorem ZsG{cs:List Nat} {t j:Array Value} (h:ZaB cs 0 t.toList=ZaB cs 0 j.toList) {s:Nat} (hs:s∉cs):t[s]?=j[s]?:=by
 have:=congrArg (fun l=>l[s]?) h;simp only[ZsF,ZB1]at this;have p:cs.contains s=false:=by simpa using hs
 rw[p]at this;simpa using this
def ZbT(P:Program)(K:Value->World->Prop):Result Next->Prop|.ok (.value v) x=>K v x|.ok .skip x=>K undef x|.ok (.enter f args) x=>Calls P f args x fun e x'=>∃v,e=.returned v/\K v x'|_=>False
theorem ZsH{o:Oper} {a:Act} {x:World} {K:Value->World->Prop} {N:Act->World->Prop} {Q:Exit->Act->World->Prop} (h:ZbT P K ((execOp a.eval o).run P x))(hN:∀v x',K v x'->N (a.put o.dst v) x'):o.wp P a x N Q:=by unfold Oper.wp;cases j:(execOp a.eval o).run P x with
 |ok n x'=>rw[j]at h;cases n with
  |value v=>exact hN _ _ h|skip=>exact hN _ _ h|enter f args=>rw[Oper.upon_enter];refine Calls.mono h ?_;rintro e q ⟨v,rfl,p⟩;exact hN _ _ p|_=>exact h.elim
 |_=>rw[j]at h;exact h.elim
theorem Zao{K:Value->World->Prop} {r:Result Next} {v:Value} {x:World} (j:r=.ok (.value v) x)(h:K v x):ZbT P K r:=by subst j;exact h
theorem ZcB{K:Value->World->Prop} {r:Result Next} {x:World} (j:r=.ok .skip x)(h:K undef x):ZbT P K r:=by subst j;exact h
theorem Zbx{K:Value->World->Prop} {r:Result Next} {x:World} {f:FuncId} {args:Array Value} (j:r=.ok (.enter f args) x)(h:Calls P f args x fun e x'=>∃v,e=.returned v/\K v x'):ZbT P K r:=by subst j;exact h
def spB(ops:Array Oper)(sp:List Nat):Bool:=sp.all fun j=>match ops[j]? with|some o=>o.guard.isNone|none=>false
def ZgZ(ops:Array Oper)(C:World->Prop)(J:(Nat->Bool)->(Nat->Gh)->World->Prop)(p:(Nat->Gh)->Act)(h:Array Bool)(a:Act)(x:World):Prop:=C x/\(∀(i:Nat)(o:Oper),ops[i]?=some o->h.getD i true=true->∀e∈o.after,Region.binds .any e=true->h.getD e.on true=true)/\∃g,ZeT ops h a (p g)/\J (fun j=>h.getD j true) g x
theorem ZsI(h:Array Bool)(i:Nat):(fun j=>(h.setIfInBounds i true).getD j true)=Za7 (fun j=>h.getD j true) i:=funext fun j=>by
 unfold Za7;by_cases p:i=j;·subst p;rw[Zi5,BEq.rfl,Zy9]
 ·rw[getD_set_ne true p];have:(j==i)=false:=by simpa using fun e=>p e.symm
  rw[this,Zy1]
end
end Go.Proofs
namespace Go.Proofs
open Go.RowKit
structure OnlyB (b:Nat)(x x':World):Prop where
 below:∀n,n<=b->Below n x x'
 other:∀k,k≠b->x'.heap[k]?=x.heap[k]?
theorem OnlyB.refl(b:Nat)(x:World):OnlyB b x x:=⟨fun n _=>ZyU n x,fun _ _=>rfl⟩
theorem OnlyB.set{b:Nat} {x x':World} (h:OnlyB b x x')(o:Nat)(u:Value):OnlyB b x (x'.setCell ⟨b,o,none⟩ u):=⟨fun n p=>(h.below n p).setCell p u,fun k j=>(ZyT x' ⟨b,o,none⟩ u k j).trans (h.other k j)⟩
theorem OnlyB.keep{b:Nat} {x x':World} (h:OnlyB b x x') {k:Nat} {o:Obj} (hk:k≠b)(hx:x.heap[k]?=some o):x'.heap[k]?=some o:=(h.other k hk).trans hx
theorem ZJ{L:Nat->Bool} {j k:Nat} (h:k≠j):Za7 L j k=L k:=by
 unfold Za7;have:(k==j)=false:=by simpa using h
 rw[this,Zy1]
theorem ZaV{L:Nat->Bool} {j:Nat}:Za7 L j j=true:=by simp[Za7]
theorem upd_ne{g:Nat->Gh} {j k:Nat} {h:Gh} (hk:k≠j):upd g j h k=g k:=by unfold upd;rw[if_neg hk]
theorem Zaa{g:Nat->Gh} {j:Nat} {h:Gh}:upd g j h j=h:=by unfold upd;rw[if_pos rfl]
section
variable {P:Program}
end
theorem Zg0{P:Program} {f:Operand->Value} {o:Oper} {t ty:TypeId} {p q:Operand} {b:Nat} {v0 v1 u0 u1:Value} {x:World} (y:o.op=.store t p q)(h0:v0.oneCell'=true)(u:v1.oneCell'=true)(h:Sem.run P (sizeOf t) x=.ok 2 x)(hp:f p=.pointer (some b))(hq:f q=.agg #[v0,v1])(hz:x.heap[b]?=some (.cells #[u0,u1] ty)):(execOp f o).run P x=.ok .skip ((x.setCell ⟨b,0,none⟩ v0).setCell ⟨b,1,none⟩ v1):=by have j:=bk2 hz;unfold execOp;rw[y];simp[go_sem,hp,hq,j,h,run_store _ _ _ v0 _ h0,run_store _ _ _ v1 _ u]
theorem Zef{P:Program} {f:Operand->Value} {o:Oper} {t ty:TypeId} {p q:Operand} {b:Nat} {v0 v1 v2 u0 u1 u2:Value} {x:World} (z:o.op=.store t p q)(h0:v0.oneCell'=true)(u:v1.oneCell'=true)(y:v2.oneCell'=true)(h:Sem.run P (sizeOf t) x=.ok 3 x)(hp:f p=.pointer (some b))(hq:f q=.agg #[v0,v1,v2])(hz:x.heap[b]?=some (.cells #[u0,u1,u2] ty)):(execOp f o).run P x=.ok .skip (((x.setCell ⟨b,0,none⟩ v0).setCell ⟨b,1,none⟩ v1).setCell ⟨b,2,none⟩ v2):=by have j:=bk3 hz;unfold execOp;rw[z];simp[go_sem,hp,hq,j,h,run_store _ _ _ v0 _ h0,run_store _ _ _ v1 _ u,run_store _ _ _ v2 _ y]
end Go.Proofs
namespace Go.Proofs
open Go.RowKit
section
variable {P:Program}
end
theorem ZsJ{w x x':World} {row:Option Nat} (h:QB w x)(j:x.grownBy x' row)(p:∀b,row=some b->w.heap.size<=b):QB w x':=h.grown j h.size p
section
variable {P:Program}
theorem ZsK(v:Value) (hv:v.oneCell'=true) (x:World) (b o:Nat) (u:Value) (h:x.cell? ⟨b,o,none⟩=some u) (hf:x.frozen? ⟨b,o,none⟩=false):(store ⟨b,o,none⟩ v).run P x=.ok () (x.setCell ⟨b,o,none⟩ v):=by cases v<;>first|(simp[Value.oneCell']at hv;done)|simp[store,Sem.run,h,hf]
theorem Zg1(b:Nat)(T:TypeId):∀(vs:List Value)(i:Nat)(cs:List Value)(x:World),x.heap[b]?=some (.cells cs.toArray T)->i+vs.length<=cs.length->(∀u∈vs,u.oneCell'=true)->∃x',(storeCells ⟨b,0,none⟩ vs i).run P x=.ok () x'/\x'.heap[b]?=some (.cells (cs.take i++vs++cs.drop (i+vs.length)).toArray T (0,0))/\x.grownBy x' (some b)/\x'.heap.size=x.heap.size
 |[],i,cs,x,hx,_,_=>⟨x,by simp[storeCells,Sem.run,pure],by simpa using hx,⟨rfl,rfl,rfl,ZBF _,fun _ _ _=>rfl⟩,rfl⟩|v::vs,i,cs,x,hx,hl,h1=>by
  simp only[ZAB]at hl;have y:x.cell? ⟨b,i,none⟩=some (cs[i]'Qa):=by unfold World.cell?;simp only[hx];simp[ZAm (show i<cs.length by omega)]
  have z:x.frozen? ⟨b,i,none⟩=false:=by unfold World.frozen?;simp only[hx];simp
  have D:=ZsK (P:=P) v (h1 v Qd) x b i _ y z;have j:(x.setCell ⟨b,i,none⟩ v).heap[b]?=some (.cells (cs.set i v).toArray T (0,0)):=ZL hx v Qd;obtain⟨x',F,G,H,I⟩:=Zg1 b T vs (i+1) (cs.set i v) _ j Qk fun u E=>h1 u (by simp[E]);refine⟨x',?_,?_,?_,by rw[I];simp⟩
  ·unfold storeCells;have e:(⟨b,0,none⟩:Addr).add i=⟨b,i,none⟩:=by unfold Addr.add;split<;>simp_all
   rw[e];simp only[Sem.run_bind,D,Result.andThen_ok];exact F
  ·rw[G];congr 2;apply congrArg;have p:(cs.set i v).take (i+1)=cs.take i++[v]:=by rw[ZBn,List.getElem?_set_self Qa,List.take_set];rw[List.set_eq_of_length_le (by simp[Nat.min_le_left])];rfl
   have q:(cs.set i v).drop (i+1+vs.length)=cs.drop (i+1+vs.length):=by rw[List.drop_set_of_lt Qa]
   rw[p,q];simp only[ZAB,ZzN,ZzR,ZBb];congr 4;omega
  ·exact World.grownBy.trans (b:=x.setCell ⟨b,i,none⟩ v) ⟨rfl,rfl,rfl,Qd,fun k J h=>ZyT x ⟨b,i,none⟩ v k fun e=>h (by rw[e])⟩ H
theorem Zi6(b:Nat)(T:TypeId)(cs:List Value)(x:World)(hx:x.heap[b]?=some (.cells cs.toArray T)):∀(n i:Nat)(acc:Array Value),i+n<=cs.length->(loadCellsFrom ⟨b,0,none⟩ i n acc).run P x=.ok (acc++((cs.drop i).take n).toArray) x
 |0,i,acc,_=>by simp[loadCellsFrom,Sem.run,pure]|n+1,i,acc,h=>by
  have j:x.cell? ⟨b,i,none⟩=some (cs[i]'Qa):=by unfold World.cell?;simp only[hx];simp[ZAm (show i<cs.length by omega)]
  unfold loadCellsFrom;have e:(⟨b,0,none⟩:Addr).add i=⟨b,i,none⟩:=by unfold Addr.add;split<;>simp_all
  rw[e];have p:(load ⟨b,i,none⟩).run P x=.ok (cs[i]'Qa) x:=by simp[load,Sem.run,j]
  simp only[Sem.run_bind,p,Result.andThen_ok];rw[Zi6 b T cs x hx n (i+1) _ Qa];rw[ZzY (show i<cs.length by omega),ZBr];simp
variable {ops:Array Oper} {rest:List Oper} {o:Oper} {a:Act} {Q:Exit->Act->World->Prop}
theorem ZaC{w:World} (j:o.guard=none)(p q:Operand)(t:TypeId)(G:o.op=.store t p q)(b:Nat)(vs cs:List Value)(T:TypeId)(hp:a.eval p=.pointer (some b))(hq:a.eval q=.agg vs.toArray)(y:(sizeOf t).run P w=.ok vs.length w)(hb:w.heap[b]?=some (.cells cs.toArray T))(F:cs.length=vs.length)(D:∀u∈vs,u.oneCell'=true)(h:∀w',w'.heap[b]?=some (.cells vs.toArray T)->w.grownBy w' (some b)->w'.heap.size=w.heap.size->wpList P ops Q rest (a.put o.dst undef) w'):wpList P ops Q (o::rest) a w:=by
 obtain⟨x',H,I,J,L⟩:=Zg1 (P:=P) b T vs 0 cs w hb Qa D;refine wpList_plain j fun K E=>?_;unfold Oper.wp execOp;have z:(storeVar t ⟨b,0,none⟩ (.agg vs.toArray)).run P w=.ok () x':=by unfold storeVar;simp only[Sem.run_bind,y,Result.andThen_ok,Value.cells,ZBl,ne_eq,not_true_eq_false,if_false];exact H
 simp only[G,Instr.storeAt,Instr.sureAddr,hp,hq,Sem.run_bind,Sem.run_pure,Result.andThen_ok,z];refine E _ _ (h x' ?_ J L);rw[I];congr 2;apply congrArg;simp[F]
theorem Zag{w:World} {t:TypeId} {b:Nat} {cs:List Value} {T:TypeId} (h:(isAgg t).run P w=.ok true w)(j:(sizeOf t).run P w=.ok cs.length w)(hb:w.heap[b]?=some (.cells cs.toArray T)):(loadVar t ⟨b,0,none⟩).run P w=.ok (.agg cs.toArray) w:=by unfold loadVar loadCells;simp only[Sem.run_bind,h,j,Result.andThen_ok,if_true];rw[Zi6 b T cs w hb cs.length 0 #[] Qa];simp[Sem.run,pure]
theorem ZeU{w:World} (q:o.guard=none)(p:Operand)(t:TypeId)(D:o.op=.load t p)(b:Nat)(cs:List Value)(T:TypeId)(hp:a.eval p=.pointer (some b))(j:(isAgg t).run P w=.ok true w)(u:(sizeOf t).run P w=.ok cs.length w)(hb:w.heap[b]?=some (.cells cs.toArray T))(h:wpList P ops Q rest (a.put o.dst (.agg cs.toArray)) w):wpList P ops Q (o::rest) a w:=by
 refine wpList_plain q fun K z=>?_;unfold Oper.wp execOp;have y:(loadVar t ⟨b,0,none⟩).run P w=.ok (.agg cs.toArray) w:=by unfold loadVar loadCells;simp only[Sem.run_bind,j,u,Result.andThen_ok,if_true];rw[Zi6 b T cs w hb cs.length 0 #[] Qa];simp[Sem.run,pure]
 simp only[D,Instr.loadAt,Instr.sureAddr,hp,Sem.run_bind,Sem.run_pure,Result.andThen_ok,y];exact z _ _ h
theorem Zi7(ad:Addr)(w:World):(asAddr (.pointer (some ad))).run P w=.ok ad w:=rfl
theorem Zeg{fn:Func} {p:Tmp} {ty:TypeId} (h:fn.results=#[.cell p ty]) {j:Array Value} {w:World} {ad:Addr} {v:Value} (u:j.getD p undef=.pointer (some ad))(q:(loadVar ty ad).run P w=.ok v w):(results fn j).run P w=.ok v w:=by unfold results;rw[h];simp only[List.mapM_toArray,ZAI,ZAJ,u,Sem.run_bind,Sem.run_pure,Zi7,Result.andThen_ok,q,bind_assoc,pure_bind,map_eq_pure_bind];rfl
theorem ZaG{fn:Func} {p u:Tmp} {ty:TypeId} (h:fn.results=#[.cell p ty,.tmp u]) {j:Array Value} {w:World} {ad:Addr} {v:Value} (y:j.getD p undef=.pointer (some ad))(q:(loadVar ty ad).run P w=.ok v w):(results fn j).run P w=.ok (.tuple #[v,j.getD u undef]) w:=by unfold results;rw[h];simp only[List.mapM_toArray,ZAI,ZAJ,y,Sem.run_bind,Sem.run_pure,Zi7,Result.andThen_ok,q,bind_assoc,pure_bind,map_eq_pure_bind];rfl
end
end Go.Proofs
namespace Go.Proofs
open Tryz
open Go.RowKit
def Zbj(n m:Int):Bool:=Z1 n (-m) m
theorem Zi8(n m:Int)(w:World)(hm:m.natAbs<=9000000000000000000):Calls prog 54 #[n,m] w fun e w'=>e=.returned (Zbj n m)/\w=w':=by have h:IntKind.i64.wrap (-m)=-m:=ZzE _ Qa;go_enter func54,ntmps54;go_wp2_with (go_at_call 48;refine(Zco _ _ _ _).mono ?_;rintro e w' ⟨rfl,rfl⟩);go_ret;exact⟨rfl,rfl⟩
theorem Zmq(n b:Int)(w:World)(hb:0<b)(y:n.natAbs<=9000000000000000000):Calls prog 78 #[n,b] w fun e w'=>e=.returned (.int .i64 (n / b))/\w=w':=by
 have j:¬b=0:=Qa
 have p:(b==0)=false:=by simpa using j
 have z:(n.tdiv b).natAbs<=n.natAbs:=by rw[Int.natAbs_tdiv];exact Nat.div_le_self _ _
 have q:IntKind.i64.wrap (n.tdiv b)=n.tdiv b:=ZzE _ Qa;by_cases h:n.tmod b<0;·have u:IntKind.i64.wrap (n.tdiv b-1)=n.tdiv b-1:=ZzE _ Qa;go_enter func78,ntmps78;go_wp2;go_ret;exact⟨ZbG (ZrH n b hb h),rfl⟩
 ·go_enter func78,ntmps78;go_wp2;go_ret;exact⟨ZbG (ZrI n b hb Qa),rfl⟩
def lowG(n b:Int):Int:=(gcdL 0 [n,b]:Int)
theorem ZeV(n b:Int)(hb:0<b):0<lowG n b/\lowG n b∣n/\lowG n b∣b:=by have j:=ZcU (l:=[n,b]) (g:=0) b Qd Qa;have h:=(ZcT [n,b] 0).2;exact⟨by unfold lowG;omega,h n Qd,h b Qd⟩
theorem Zmr(n b:Int)(w:World)(hb:0<b)(Z:n.natAbs<=1000000000000000000)(y:b.natAbs<=1000000000000000000):Calls prog 29 #[n,b] w (Qt w (.agg #[.int .i64 (n / lowG n b),.int .i64 (b / lowG n b)])):=by
 obtain⟨u,N,O⟩:=ZeV n b hb;have H:IntKind.i64.wrap (n.tdiv (lowG n b))=n / lowG n b:=Zdg u N Z Qc;have I:IntKind.i64.wrap (b.tdiv (lowG n b))=b / lowG n b:=Zdg u O y Qc;have S:=ZzG (by have R:=(ZM.new (T:=3) (w.alloc (.cells #[(0:Int),(0:Int)] 30)) [n,b]).at';simp only[World.size_alloc]at R;exact ZiT (some ⟨w.heap.size+1,0,none⟩) [n,b] 2 ((w.alloc (.cells #[(0:Int),(0:Int)] 30)).alloc (.cells #[n,b] 3)) R Qd (by intro x U;simp only[ZAX,ZBe,or_false]at U;rcases U with rfl|rfl<;>omega):Calls prog 62 #[.slice (some ⟨w.heap.size+1,0,none⟩) 2 2] ((w.alloc (.cells #[(0:Int),(0:Int)] 30)).alloc (.cells #[n,b] 3)) fun e w'=>e=.returned (gcdL 0 [n,b]:Nat)/\Below ((w.alloc (.cells #[(0:Int),(0:Int)] 30)).alloc (.cells #[n,b] 3)).heap.size ((w.alloc (.cells #[(0:Int),(0:Int)] 30)).alloc (.cells #[n,b] 3)) w');obtain⟨g,D⟩:=Qu (lowG n b);have q:((gcdL 0 [n,b]:Nat):Int)=g:=D;rw[q]at S;rw[D]at u H I |-;have F:¬g=0:=Qa
 have Y:(g==0)=false:=by simpa using F
 clear D q N O;go_enter func29,ntmps29;go_wp2_with (go_at_call 62;refine S.out.mono ?_;rintro e w2 ⟨rfl,h⟩);have V:=Zx h (Qs:((w.alloc (.cells #[(0:Int),(0:Int)] 30)).alloc (.cells #[n,b] 3)).heap[w.heap.size]?=some (.cells #[(0:Int),(0:Int)] 30));have X:QB w w2:=via Qi h;clear h;refine ZaK w 7 Qb Qb Qi ?_;intro E z;simp only[ZBr,ZBt,ZzZ,Zz0];repeat (go_big_quiet_step (fail))
 refine wpQuiet_nil ?_;intro wb j J G;clear E z;have L:=Zx j V;have C1:=bk2 L;go_wp2;refine bodyPost_ret (v:=.agg #[.int .i64 (n / g),.int .i64 (b / g)]) ?_ rfl ⟨rfl,?_⟩;·exact Zeg (p:=4) (ad:=⟨w.heap.size,0,none⟩) rfl Qe (Zag (T:=30) (cs:=[.int .i64 (n / g),.int .i64 (b / g)]) Qb Qb (ZL (ZL L _ rfl) _ rfl))
 ·go_grown
theorem ZsL(k ag n d v:Int)(w:World)(E:n.natAbs<=1000000000000000)(q:d.natAbs<=1000000000000000)(hv:v.natAbs<=1000):Calls prog 57 #[.agg #[k,ag],.agg #[n,d],v] w (Qt w (.bool (if k=1 then decide (n*1000<v*d)else decide (n<v*d)))):=by
 have p:=Zaf hv q;obtain⟨y,h⟩:=Qu (v*d);rw[h]at p;have z:IntKind.i64.wrap (v*d)=y:=by rw[h];exact ZzE _ Qa
 have D:IntKind.i64.wrap (n*1000)=n*1000:=ZzE _ Qa;rw[h];clear h p;by_cases j:k=1;·subst j;go_enter func57,ntmps57;go_wp2;go_ret;exact⟨ZcS Qd,Qi⟩
 ·have u:(k==1)=false:=by simpa using j
  go_enter func57,ntmps57;go_wp2;go_ret;exact⟨ZcS (by simp[j]),Qi⟩
def ZbU(k ag:Int):Int:=Z4 [unl (Z1 k 0 1) 15,unl (Z1 ag 0 400) 2]
theorem Zi9(k ag:Int)(w:World):Calls prog 56 #[.agg #[k,ag]] w (Qt w (ZbU k ag)):=by
 unfold ZbU;obtain⟨L,G⟩:=Qu (Z1 k 0 1);obtain⟨N,H⟩:=Qu (Z1 ag 0 400);have j:=ZzG fun W=>Zco k 0 1 W;have p:=ZzG fun W=>Zco ag 0 400 W;rw[G]at j |-;rw[H]at p |-;clear G H;go_enter func56,ntmps56;go_wp2;refine Zbw ?_;intro I h;have q:QB w I:=by rw[h];go_grown
 have J:I.heap[w.heap.size]?=some (.cells #[k,ag] 27):=by rw[h];exact Qs
 have D:=bk2 J;clear h;refine ZaK w 8 Qb Qb q ?_;intro z y;simp only[ZBr,ZBt,ZzZ,Zz0];repeat (go_big_quiet_step (first
  |(go_at_call 48;first|with_reducible exact Zd (j.out _)|with_reducible exact Zd (p.out _))|(go_at_call 47;with_reducible exact Zd (ZbH _ _ _))))
 refine wpQuiet_nil ?_;intro O u F E;clear z y;go_wp2_with (go_at_call 45;refine(Zea _ _ _).mono ?_;rintro e w' ⟨rfl,rfl⟩);go_ret;exact⟨rfl,Qi⟩
theorem ZsM(A:Option Addr)(l:List Pa)(c:Nat)(B:Nat)(f:Pa->Bool)(w:World)(hl:l.length<=1000000)(H:At 5 Pa.cs w A l)(Y:∀y∈l,∀W,QB w W->Calls prog 94 (#[.agg #[.string y.nm,y.a0,y.a1,y.c0,y.c1]]++#[.pointer (some B)]) W (Qt W (f y))):Calls prog 108 #[.slice A l.length c,.func (.func 94) #[] #[.pointer (some B)]] w fun e w'=>(∃r:Int,e=.returned r/\decide (0<=r)=l.any f)/\QB w w':=by
 have z:=ZzG Y;have I:=ZzG H;obtain⟨n,X⟩:=Qu l.length;have L:=ZzG X;rw[X]at hl |-;clear H Y X;go_enter func108,ntmps108;go_wp2_with fail;go_loopw [8] (fun i wr=>∃k:Nat,k<=n/\i=.int .i64 k/\Hid (((l.take k).any f)=false)/\QB w wr)(fun i _=>n-(intOf i).toNat);case atStart=>exact⟨0,ZB2 _,rfl,rfl,ZyU _ _⟩
 case round=>
  obtain⟨k,hk,rfl,u,j⟩:=hrel;by_cases V:k<n
  ·obtain⟨y,O⟩:∃y,l[k]?=some y:=⟨_,ZAm (by rw[L.out];exact V)⟩;obtain⟨b,o,rfl,Z,F⟩:=I.out.below j k y O;have D:=ZzG fun W J=>z.out y (ZA5 O) W J;obtain⟨q,R⟩:=Qu (f y);have E:Hid (((l.take (k+1)).any f)=q):=by obtain⟨S,he⟩:=ZAp.1 O;unfold Hid;rw[ZBs S,ZzK,he,u.out];simpa using R
   have G:Hid (q=true->(l.any f)=true):=fun h=>by rw[ZzM];exact⟨y,ZA5 O,by rw[R,h]⟩
   rw[R]at D;(have y0:=F 0 _ rfl;have y1:=F 1 _ rfl;have y2:=F 2 _ rfl;have y3:=F 3 _ rfl;have y4:=F 4 _ rfl;simp only[ZBz]at y0);have aA:(k:Int)<(n:Int):=Qa
   clear F O R u z;cases q
   ·go_wp2_with (go_at_call 94;refine(D.out _ j).mono ?_;rintro e w1 ⟨rfl,J⟩;have j:=via j J);go_roundw;case rel=>exact⟨k+1,Qa,Qj,E,j⟩
    case measure=>simp[intOf];omega
   ·have ht:=G.out rfl;go_wp2_with (go_at_call 94;refine(D.out _ j).mono ?_;rintro e w1 ⟨rfl,J⟩;have j:=via j J);go_ret;exact⟨⟨k,rfl,by rw[ht];simp⟩,j⟩
  ·have U:k=n:=Qa
   subst U;have p:=u.out;rw[ZBp (by rw[L.out];exact ZBF _)]at p;have N:=ZzG p;clear u p z;go_wp2;go_ret;exact⟨⟨-1,rfl,by rw[N.out];decide⟩,j⟩
theorem ZsN(A:Option Addr)(l:List Pa)(c:Nat)(B:Nat)(f:Pa->Bool)(w:World)(z:l.length<=1000000)(h:At 5 Pa.cs w A l)(j:∀y∈l,∀W,QB w W->Calls prog 94 (#[.agg #[.string y.nm,y.a0,y.a1,y.c0,y.c1]]++#[.pointer (some B)]) W (Qt W (f y))):Calls prog 93 #[.slice A l.length c,.func (.func 94) #[] #[.pointer (some B)]] w (Qt w (l.any f)):=by have p:=ZsM A l c B f w z h j;generalize (l.any f)=q at*;generalize l.length=n at*;clear h j;go_enter func93,ntmps93;go_wp2_with (go_at_call 108;refine p.mono ?_;rintro e E ⟨⟨r,rfl,D⟩,u⟩);go_ret;exact⟨rfl,u⟩
theorem ZsO(A:Option Addr)(l:List En)(c:Nat)(B:Nat)(f:En->Bool)(w:World)(hl:l.length<=1000000)(G:At 3 En.cs w A l)(Y:∀y∈l,∀W,QB w W->Calls prog 96 (#[.agg #[.string y.nm,.slice y.A y.co.length y.c,y.mo]]++#[.pointer (some B)]) W (Qt W (f y))):Calls prog 109 #[.slice A l.length c,.func (.func 96) #[] #[.pointer (some B)]] w fun e w'=>(∃r:Int,e=.returned r/\decide (0<=r)=l.any f)/\QB w w':=by
 have z:=ZzG Y;have H:=ZzG G;obtain⟨n,X⟩:=Qu l.length;have J:=ZzG X;rw[X]at hl |-;clear G Y X;go_enter func109,ntmps109;go_wp2_with fail;go_loopw [8] (fun i wr=>∃k:Nat,k<=n/\i=.int .i64 k/\Hid (((l.take k).any f)=false)/\QB w wr)(fun i _=>n-(intOf i).toNat);case atStart=>exact⟨0,ZB2 _,rfl,rfl,ZyU _ _⟩
 case round=>
  obtain⟨k,hk,rfl,u,j⟩:=hrel;by_cases V:k<n
  ·obtain⟨y,N⟩:∃y,l[k]?=some y:=⟨_,ZAm (by rw[J.out];exact V)⟩;obtain⟨b,o,rfl,Z,O⟩:=H.out.below j k y N;have D:=ZzG fun W I=>z.out y (ZA5 N) W I;obtain⟨q,R⟩:=Qu (f y);have E:Hid (((l.take (k+1)).any f)=q):=by obtain⟨S,he⟩:=ZAp.1 N;unfold Hid;rw[ZBs S,ZzK,he,u.out];simpa using R
   have F:Hid (q=true->(l.any f)=true):=fun h=>by rw[ZzM];exact⟨y,ZA5 N,by rw[R,h]⟩
   rw[R]at D;(have y0:=O 0 _ rfl;have y1:=O 1 _ rfl;have y2:=O 2 _ rfl;simp only[ZBz]at y0);have aA:(k:Int)<(n:Int):=Qa
   clear O N R u z;cases q
   ·go_wp2_with (go_at_call 96;refine(D.out _ j).mono ?_;rintro e w1 ⟨rfl,I⟩;have j:=via j I);go_roundw;case rel=>exact⟨k+1,Qa,Qj,E,j⟩
    case measure=>simp[intOf];omega
   ·have ht:=F.out rfl;go_wp2_with (go_at_call 96;refine(D.out _ j).mono ?_;rintro e w1 ⟨rfl,I⟩;have j:=via j I);go_ret;exact⟨⟨k,rfl,by rw[ht];simp⟩,j⟩
  ·have U:k=n:=Qa
   subst U;have p:=u.out;rw[ZBp (by rw[J.out];exact ZBF _)]at p;have L:=ZzG p;clear u p z;go_wp2;go_ret;exact⟨⟨-1,rfl,by rw[L.out];decide⟩,j⟩
theorem ZsP(A:Option Addr)(l:List En)(c:Nat)(B:Nat)(f:En->Bool)(w:World)(z:l.length<=1000000)(h:At 3 En.cs w A l)(j:∀y∈l,∀W,QB w W->Calls prog 96 (#[.agg #[.string y.nm,.slice y.A y.co.length y.c,y.mo]]++#[.pointer (some B)]) W (Qt W (f y))):Calls prog 95 #[.slice A l.length c,.func (.func 96) #[] #[.pointer (some B)]] w (Qt w (l.any f)):=by have p:=ZsO A l c B f w z h j;generalize (l.any f)=q at*;generalize l.length=n at*;clear h j;go_enter func95,ntmps95;go_wp2_with (go_at_call 109;refine p.mono ?_;rintro e E ⟨⟨r,rfl,D⟩,u⟩);go_ret;exact⟨rfl,u⟩
theorem ZsQ(A:Option Addr)(l:List Int)(c:Nat)  (f:Int->Bool)(w:World)(hl:l.length<=1000000)(G:At 1 Zc w A l)(X:∀y∈l,∀W,QB w W->Calls prog 97 (#[.int .i64 y]++#[]) W (Qt W (f y))):Calls prog 92 #[.slice A l.length c,.func (.func 97) #[] #[]] w fun e w'=>(∃r:Int,e=.returned r/\decide (0<=r)=l.any f)/\QB w w':=by
 have z:=ZzG X;have H:=ZzG G;obtain⟨n,V⟩:=Qu l.length;have J:=ZzG V;rw[V]at hl |-;clear G X V;go_enter func92,ntmps92;go_wp2_with fail;go_loopw [8] (fun i wr=>∃k:Nat,k<=n/\i=.int .i64 k/\Hid (((l.take k).any f)=false)/\QB w wr)(fun i _=>n-(intOf i).toNat);case atStart=>exact⟨0,ZB2 _,rfl,rfl,ZyU _ _⟩
 case round=>
  obtain⟨k,hk,rfl,u,j⟩:=hrel;by_cases U:k<n
  ·obtain⟨y,N⟩:∃y,l[k]?=some y:=⟨_,ZAm (by rw[J.out];exact U)⟩;obtain⟨b,o,rfl,Z,Y⟩:=H.out.below j k y N;have D:=ZzG fun W I=>z.out y (ZA5 N) W I;obtain⟨q,O⟩:=Qu (f y);have E:Hid (((l.take (k+1)).any f)=q):=by obtain⟨R,he⟩:=ZAp.1 N;unfold Hid;rw[ZBs R,ZzK,he,u.out];simpa using O
   have F:Hid (q=true->(l.any f)=true):=fun h=>by rw[ZzM];exact⟨y,ZA5 N,by rw[O,h]⟩
   rw[O]at D;(have y0:=Y 0 _ rfl;simp only[ZBz,ZBR]at y0);have aA:(k:Int)<(n:Int):=Qa
   clear Y N O u z;cases q
   ·go_wp2_with (go_at_call 97;refine(D.out _ j).mono ?_;rintro e w1 ⟨rfl,I⟩;have j:=via j I);go_roundw;case rel=>exact⟨k+1,Qa,Qj,E,j⟩
    case measure=>simp[intOf];omega
   ·have ht:=F.out rfl;go_wp2_with (go_at_call 97;refine(D.out _ j).mono ?_;rintro e w1 ⟨rfl,I⟩;have j:=via j I);go_ret;exact⟨⟨k,rfl,by rw[ht];simp⟩,j⟩
  ·have S:k=n:=Qa
   subst S;have p:=u.out;rw[ZBp (by rw[J.out];exact ZBF _)]at p;have L:=ZzG p;clear u p z;go_wp2;go_ret;exact⟨⟨-1,rfl,by rw[L.out];decide⟩,j⟩
theorem Zms(A:Option Addr)(l:List Int)(c:Nat)  (f:Int->Bool)(w:World)(z:l.length<=1000000)(h:At 1 Zc w A l)(j:∀y∈l,∀W,QB w W->Calls prog 97 (#[.int .i64 y]++#[]) W (Qt W (f y))):Calls prog 70 #[.slice A l.length c,.func (.func 97) #[] #[]] w (Qt w (l.any f)):=by have p:=ZsQ A l c  f w z h j;generalize (l.any f)=q at*;generalize l.length=n at*;clear h j;go_enter func70,ntmps70;go_wp2_with (go_at_call 92;refine p.mono ?_;rintro e E ⟨⟨r,rfl,D⟩,u⟩);go_ret;exact⟨rfl,u⟩
theorem ZsR(A:Option Addr)(l:List Int)(c:Nat)  (f:Int->Bool)(w:World)(hl:l.length<=1000000)(G:At 1 Zc w A l)(X:∀y∈l,∀W,QB w W->Calls prog 71 (#[.int .i64 y]++#[]) W (Qt W (f y))):Calls prog 92 #[.slice A l.length c,.func (.func 71) #[] #[]] w fun e w'=>(∃r:Int,e=.returned r/\decide (0<=r)=l.any f)/\QB w w':=by
 have z:=ZzG X;have H:=ZzG G;obtain⟨n,V⟩:=Qu l.length;have J:=ZzG V;rw[V]at hl |-;clear G X V;go_enter func92,ntmps92;go_wp2_with fail;go_loopw [8] (fun i wr=>∃k:Nat,k<=n/\i=.int .i64 k/\Hid (((l.take k).any f)=false)/\QB w wr)(fun i _=>n-(intOf i).toNat);case atStart=>exact⟨0,ZB2 _,rfl,rfl,ZyU _ _⟩
 case round=>
  obtain⟨k,hk,rfl,u,j⟩:=hrel;by_cases U:k<n
  ·obtain⟨y,N⟩:∃y,l[k]?=some y:=⟨_,ZAm (by rw[J.out];exact U)⟩;obtain⟨b,o,rfl,Z,Y⟩:=H.out.below j k y N;have D:=ZzG fun W I=>z.out y (ZA5 N) W I;obtain⟨q,O⟩:=Qu (f y);have E:Hid (((l.take (k+1)).any f)=q):=by obtain⟨R,he⟩:=ZAp.1 N;unfold Hid;rw[ZBs R,ZzK,he,u.out];simpa using O
   have F:Hid (q=true->(l.any f)=true):=fun h=>by rw[ZzM];exact⟨y,ZA5 N,by rw[O,h]⟩
   rw[O]at D;(have y0:=Y 0 _ rfl;simp only[ZBz,ZBR]at y0);have aA:(k:Int)<(n:Int):=Qa
   clear Y N O u z;cases q
   ·go_wp2_with (go_at_call 71;refine(D.out _ j).mono ?_;rintro e w1 ⟨rfl,I⟩;have j:=via j I);go_roundw;case rel=>exact⟨k+1,Qa,Qj,E,j⟩
    case measure=>simp[intOf];omega
   ·have ht:=F.out rfl;go_wp2_with (go_at_call 71;refine(D.out _ j).mono ?_;rintro e w1 ⟨rfl,I⟩;have j:=via j I);go_ret;exact⟨⟨k,rfl,by rw[ht];simp⟩,j⟩
  ·have S:k=n:=Qa
   subst S;have p:=u.out;rw[ZBp (by rw[J.out];exact ZBF _)]at p;have L:=ZzG p;clear u p z;go_wp2;go_ret;exact⟨⟨-1,rfl,by rw[L.out];decide⟩,j⟩
theorem ZsS(A:Option Addr)(l:List Int)(c:Nat)  (f:Int->Bool)(w:World)(z:l.length<=1000000)(h:At 1 Zc w A l)(j:∀y∈l,∀W,QB w W->Calls prog 71 (#[.int .i64 y]++#[]) W (Qt W (f y))):Calls prog 70 #[.slice A l.length c,.func (.func 71) #[] #[]] w (Qt w (l.any f)):=by have p:=ZsR A l c  f w z h j;generalize (l.any f)=q at*;generalize l.length=n at*;clear h j;go_enter func70,ntmps70;go_wp2_with (go_at_call 92;refine p.mono ?_;rintro e E ⟨⟨r,rfl,D⟩,u⟩);go_ret;exact⟨rfl,u⟩
theorem Zmt(lo hi m:Int)(w:World):Calls prog 79 #[.agg #[lo,hi],m] w (Qt w (Zb2 lo hi m)):=by unfold Zb2;obtain⟨R,I⟩:=Qu (Z1 lo 0 m);obtain⟨S,J⟩:=Qu (Z1 hi 0 m);obtain⟨U,q⟩:=Qu (decide (lo<=hi));have j:=ZzG fun W=>Zco lo 0 m W;have p:=ZzG fun W=>Zco hi 0 m W;rw[I]at j |-;rw[J]at p |-;rw[q];have u:=ZzG q;clear I J q;cases R;all_goals
  go_enter func79,ntmps79;go_wp2;refine Zbw ?_;intro N h;have y:QB w N:=by rw[h];go_grown
  have O:N.heap[w.heap.size]?=some (.cells #[lo,hi] 63):=by rw[h];exact Qs
  have D:=bk2 O;clear h;have L:=u.out;refine ZaK w 17 Qb Qb y ?_;intro F E;simp only[ZBr,ZBt,ZzZ,Zz0];repeat (go_big_quiet_step (first
   |(go_at_call 48;first|with_reducible exact Zd (j.out _)|with_reducible exact Zd (p.out _))|(go_at_call 47;with_reducible exact Zd (ZbH _ _ _))))
  refine wpQuiet_nil ?_;intro V z H G;clear F E;go_wp2_with (go_at_call 45;refine(Zea _ _ _).mono ?_;rintro e w' ⟨rfl,rfl⟩);go_ret;exact⟨ZbG Qd,Qi⟩
theorem ZsT(p q:Pa)(B:Nat)(w:World)(hB:w.heap[B]?=some (.cells #[.string p.nm,p.a0,p.a1,p.c0,p.c1] 74)):Calls prog 94 (#[.agg #[.string q.nm,q.a0,q.a1,q.c0,q.c1]]++#[.pointer (some B)]) w (Qt w (eqS q.nm p.nm)):=by
 have h:w.cell? B=some (.string p.nm):=by unfold World.cell?;simp[hB]
 have j:=ZI hB;clear hB;simp only[ZzP,ZzR,ZBb];go_enter func94,ntmps94;go_wp2;go_ret;exact⟨ZcS (by simp[eqS]),Qi⟩
theorem ZsU(p q:En)(B:Nat)(w:World)(hB:w.heap[B]?=some (.cells #[.string p.nm,.slice p.A p.co.length p.c,p.mo] 76)):Calls prog 96 (#[.agg #[.string q.nm,.slice q.A q.co.length q.c,q.mo]]++#[.pointer (some B)]) w (Qt w (eqS q.nm p.nm)):=by have h:=(bk3 hB).1;have j:=ZI hB;clear hB;simp only[ZzP,ZzR,ZBb];go_enter func96,ntmps96;go_wp2;go_ret;exact⟨ZcS (by simp[eqS]),Qi⟩
theorem Zmu(n:Int)(w:World):Calls prog 97 (#[.int .i64 n]++#[]) w (Qt w (.bool (!Zbj n 20))):=by simp only[ZzP,ZzR,ZBb];go_enter func97,ntmps97;go_wp2_with (go_at_call 54;refine(Zi8 _ _ _ Qc).mono ?_;rintro e w' ⟨rfl,rfl⟩);go_ret;exact⟨rfl,ZyU _ _⟩
variable {w:World} {ps:List Pa} {i:Nat} {es:List En}
theorem At.take'{α:Type} {sz:Nat} {cs:α->List Value} {A:Option Addr} {l:List α} (h:At sz cs w A l)(n:Nat):At sz cs w A (l.take n):=by
 intro k x j;rw[ZAw]at j;split at j;·exact h k x j
 ·cases j
def Zbs:List Int->Nat->Option (Nat×Int)|[],_=>none|e::l,k=>if e=0 then Zbs l (k+1)else some (k,e)
theorem Zdh:∀(l:List Int)(k:Nat),(∀i,i<l.length->l.getD i 0=0)->Zbs l k=none|[],_,_=>rfl|e::l,k,h=>by unfold Zbs;rw[if_pos (show e=0 by simpa using h 0 Qd)];exact Zdh l (k+1) fun i hi=>by have:=h (i+1) (by simpa using hi);simpa using this
theorem ZeW:∀(l:List Int)(k i:Nat),i<l.length->(∀j,j<i->l.getD j 0=0)->l.getD i 0≠0->Zbs l k=some (k+i,l.getD i 0)|[],_,_,h,_,_=>by simp at h|e::l,k,0,_,_,h=>by unfold Zbs;rw[if_neg (show ¬e=0 by simpa using h)];rfl|e::l,k,i+1,hi,h1,h2=>by unfold Zbs;rw[if_pos (show e=0 by simpa using h1 0 Qa),ZeW l (k+1) i (by simpa using hi) (fun j p=>by simpa using h1 (j+1) Qa) (by simpa using h2)];simp;omega
def ZaD(ps:List Pa)(i:Nat)(p:Pa):Int:=Z4 [unl (Zau p.nm.data.toList) 4,unl (!((ps.take i).any fun q=>eqS q.nm p.nm)) 5,Zb2 p.a0 p.a1 400,Zb2 p.c0 p.c1 20]
def Zbe(np:Nat)(es:List En)(i:Nat)(x:En):Int:=Z4 [unl (Zau x.nm.data.toList) 4,unl (!((es.take i).any fun y=>eqS y.nm x.nm)) 5,unl (decide (x.co.length=np)) 10,unl (!((x.mo::x.co).any fun n=>!Zbj n 20)) 2]
def Za8(ps:List Pa):List Int:=ps.mapIdx fun i p=>ZaD ps i p
def ZaO(np:Nat)(es:List En):List Int:=es.mapIdx fun i x=>Zbe np es i x
theorem Zdi{p:Pa} (h:ps[i]?=some p):(Za8 ps).getD i 0=ZaD ps i p:=by simp[Za8,ZAg,h]
theorem Zeh{np:Nat} {x:En} (h:es[i]?=some x):(ZaO np es).getD i 0=Zbe np es i x:=by simp[ZaO,ZAg,h]
def ZaP(n:Nat):Int:=Z4 [unl (decide (0<n)) 10,unl (decide (n<=5)) 8]
def Zab(ps:List Pa)(es:List En):Int×Int:=if ZaP ps.length≠0 then (0,ZaP ps.length) else match Zbs (Za8 ps) 0 with|some (k,e)=>((k:Int),e)|none=>if 8<es.length then (0,8)else match Zbs (ZaO ps.length es) 0 with|some (k,e)=>((k:Int),e)|none=>(0,0)
structure BookAt (w:World)(pA:Option Addr)(pc:Nat)(ps:List Pa)(eA:Option Addr)(ec:Nat)(es:List En):Prop where
 P:At 5 Pa.cs w pA ps
 E:Zas w eA es
 pc':ps.length<=pc
 ec':es.length<=ec
 nil:∀x∈es,x.A=none->x.c=0
theorem BookAt.below{w':World} {q j:Option Addr} {u p:Nat} (h:BookAt w q u ps j p es)(hb:QB w w'):BookAt w' q u ps j p es:=⟨h.P.below hb,h.E.below hb,h.pc',h.ec',h.nil⟩
structure FewB (ps:List Pa)(es:List En):Prop where
 p:ps.length<=1000
 e:es.length<=1000
 pn:∀p∈ps,p.nm.size<=1000
 en:∀x∈es,x.nm.size<=1000
 co:∀x∈es,x.co.length<=1000
theorem ZsV{P:Program} {ops:Array Oper} {Q:Exit->Act->World->Prop} {l:List Oper} {a:Act} (h:∀W,W=w->wpList P ops Q l a W):wpList P ops Q l a w:=h w rfl
theorem ZsW(pA eA:Option Addr)(pc ec F en:Nat)(ps:List Pa)(es:List En)(w:World)(hB:BookAt w pA pc ps eA ec es)(hF:FewB ps es)(aS:ps.length=F)(aP:es.length=en):Calls prog 74 #[.agg #[.slice pA F pc,.slice eA en ec]] w (Qt w (.tuple #[(Zab ps es).1,(Zab ps es).2])):=by
 have cO:F<=pc:=by rw[<-aS];exact hB.pc'
 have cM:en<=ec:=by rw[<-aP];exact hB.ec'
 have cN:F<=1000:=by rw[<-aS];exact hF.p
 have cL:en<=1000:=by rw[<-aP];exact hF.e
 have aK:=ZzG hB;have bB:=ZzG hF;have aE:=ZzG aS;have Y:=ZzG aP;have hv:=ZzG (show Zab ps es=if ZaP F≠0 then (0,ZaP F) else match Zbs (Za8 ps) 0 with
    |some (k,e)=>((k:Int),e)|none=>if 8<en then (0,8)else match Zbs (ZaO F es) 0 with
     |some (k,e)=>((k:Int),e)|none=>(0,0)by rw[<-aS,<-aP];rfl);obtain⟨V,hV⟩:=Qu (Zab ps es);rw[hV]at hv |-;have aY:Hid (ZaP F=Z4 [unl (decide (0<F)) 10,unl (decide (F<=5)) 8]):=rfl;obtain⟨S,hS⟩:=Qu (ZaP F);rw[hS]at hv aY;clear hB hF aS aP hV hS;obtain⟨s1,bF⟩:=Qu (decide (0<F));obtain⟨s2,bG⟩:=Qu (decide (F<=5));rw[bF,bG]at aY;have bP:decide ((0:Int)<(F:Int))=s1:=by rw[<-bF,decide_eq_decide];omega
 have bQ:decide ((F:Int)<=5)=s2:=by rw[<-bG,decide_eq_decide];omega
 go_enter func74,ntmps74;go_wp2;refine Zbw ?_;intro w1 bH;have bE:QB w w1:=by rw[bH];go_grown
 have M0:w1.heap[w.heap.size]?=some (.cells #[.slice pA F pc,.slice eA en ec] 25):=by rw[bH];exact Qs
 have D:=bk2 M0;clear bH;refine ZaK w 10 Qb Qb bE ?_;intro aH aG;simp only[ZBr,ZBt,ZzZ,Zz0];repeat (go_big_quiet_step ((go_at_call 47;with_reducible exact Zd (ZbH _ _ _))))
 refine wpQuiet_nil ?_;intro wb h G aA;clear aH aG;have M1:=Zx h M0;have D2:=bk2 M1;have I:=via bE h;clear M0 D bE h;have aB:=ZzG aY.out.symm;by_cases bD:S=0
 ·subst bD;have z:=aB.out;have aT:=ZzG (show V=match Zbs (Za8 ps) 0 with|some (k,e)=>((k:Int),e)|none=>if 8<en then (0,8)else match Zbs (ZaO F es) 0 with
     |some (k,e)=>((k:Int),e)|none=>(0,0)by rw[hv.out,if_neg Qd]);clear hv aY aB bF bG bP bQ;go_wp2_with (go_at_call 45;refine(Zea _ _ _).mono ?_;rw[z];rintro e w' ⟨rfl,rfl⟩);go_loopw [32] (fun i wr=>∃k:Nat,k<=F/\i=.int .i64 k/\Hid (∀j,j<k->(Za8 ps).getD j 0=0)/\wr.heap[w.heap.size]?=some (.cells #[.slice pA F pc,.slice eA en ec] 25 (0,0))/\QB w wr)(fun i _=>F-(intOf i).toNat);case atStart=>exact⟨0,ZB2 _,rfl,fun j hj=>Qa,Qs,Qi⟩
  case round=>
   clear M1 D2 I G aA z;obtain⟨k,hk,rfl,hz,M1,I⟩:=hrel;have D:=bk2 M1;by_cases aI:k<F
   ·have cA:(k:Int)<(F:Int):=Qa
    obtain⟨p,hp⟩:∃p,ps[k]?=some p:=⟨_,ZAm (by rw[aE.out];exact aI)⟩;obtain⟨b,o,rfl,bW,hc⟩:=(aK.out.below I).P k p hp;have y0:=hc 0 _ rfl;have y1:=hc 1 _ rfl;have y2:=hc 2 _ rfl;have y3:=hc 3 _ rfl;have y4:=hc 4 _ rfl;simp only[ZBz]at y0;have N:=ZzG (Zdi hp);have cC:¬((pc:Int)<(k:Int)):=Qa
    have bM:(k:Int)<=(pc:Int):=Qa
    have H:=ZzG (by have h1:=ZsN (some ⟨b,o,none⟩) (ps.take k) pc wr.heap.size (fun q=>eqS q.nm p.nm) (wr.alloc (.cells #[.string p.nm,p.a0,p.a1,p.c0,p.c1] 74)) (by rw[ZAH];have:=aE.out;omega) (((aK.out.below I).P.take' k).below (ZC _ _)) (fun y _ W hW=>ZsT p y wr.heap.size W (Zx hW (ZA _ _ rfl)));rw[ZAH,aE.out,ZBN Qa]at h1;exact h1);obtain⟨q,hq⟩:∃q,(ps.take k).any (fun q=>eqS q.nm p.nm)=q:=⟨_,rfl⟩;rw[hq]at H;have X:Hid (ZaD ps k p=Z4 [unl (Zau p.nm.data.toList) 4,unl (!((ps.take k).any fun q=>eqS q.nm p.nm)) 5,Zb2 p.a0 p.a1 400,Zb2 p.c0 p.c1 20]):=rfl;rw[hq]at X;obtain⟨E,hE⟩:=Qu (ZaD ps k p);rw[hE]at X N;have aX:=ZzG (show p.nm.size<=9223372036854775807 from ZBG (bB.out.pn p (ZA5 hp)) Qc);have cE:=ZI M1;clear hc hp hq hE;go_wp2_with (go_at_call 93;refine H.out.mono ?_;rintro e w3 ⟨rfl,J⟩);have N0:=Zx J (Zz M1 (.cells #[.string p.nm,p.a0,p.a1,p.c0,p.c1] 74));have O:=Zx J (ZA wr (.cells #[.string p.nm,p.a0,p.a1,p.c0,p.c1] 74) rfl);have aC:=via I (via (ZC wr (.cells #[.string p.nm,p.a0,p.a1,p.c0,p.c1] 74)) J);have e0:w3.cell? wr.heap.size=some (.string p.nm):=by unfold World.cell?;simp[O]
    have e1:w3.cell? ⟨wr.heap.size,1,none⟩=some (.int .i64 p.a0):=by unfold World.cell?;simp[O]
    have e2:w3.cell? ⟨wr.heap.size,2,none⟩=some (.int .i64 p.a1):=by unfold World.cell?;simp[O]
    have e3:w3.cell? ⟨wr.heap.size,3,none⟩=some (.int .i64 p.c0):=by unfold World.cell?;simp[O]
    have e4:w3.cell? ⟨wr.heap.size,4,none⟩=some (.int .i64 p.c1):=by unfold World.cell?;simp[O]
    have cP:=ZI O;clear y0 y1 y2 y3 y4 J D M1 H;refine ZaK w 13 Qb Qb aC ?_;intro aH aG;simp only[ZBr,ZBt,ZzZ,Zz0];repeat (go_big_quiet_step (first|(go_at_call 55;with_reducible exact Grew.call (ZfJ _ _ aX.out))|(go_at_call 47;with_reducible exact Zd (ZbH _ _ _))|(go_at_call 79;with_reducible exact Grew.call (Zmt _ _ _ _))))
    refine wpQuiet_nil ?_;intro wb h G aA;clear aH aG;have P0:=Zx h N0;clear N0 O e0 e1 e2 e3 e4 aC h;have aB:=ZzG X.out.symm;have z:=aB.out;by_cases R:E=0
    ·subst R;go_wp2_with (go_at_call 45;refine(Zcy _ _ _ _ _).mono ?_;rw[z];rintro e w' ⟨rfl,rfl⟩);go_roundw;case rel=>exact⟨k+1,Qa,Qj,(fun j hj=>by
      by_cases aQ:j=k;·rw[aQ,N.out]
      ·exact hz.out j Qa),Zz P0 _,via G (ZC _ _)⟩
     case measure=>exact Qv
    ·have bK : (E != 0) = true := by simpa using R
     have aV:=ZzG (show V=((k:Int),E)by rw[aT.out,ZeW (Za8 ps) 0 k (by simp[Za8];rw[aE.out];exact aI) hz.out (by rw[N.out];exact R),N.out];simp);go_wp2_with (go_at_call 45;refine(Zcy _ _ _ _ _).mono ?_;rw[z];rintro e w' ⟨rfl,rfl⟩);go_ret2;exact⟨by rw[aV.out];rfl,Qi⟩
   ·obtain rfl:F=k:=Qa
    have bS:=ZzG (show V=if 8<en then (0,8)else match Zbs (ZaO F es) 0 with
      |some (k,e)=>((k:Int),e)|none=>(0,0)by rw[aT.out,Zdh (Za8 ps) 0 fun i hi=>hz.out i (by simp[Za8]at hi;rw[aE.out]at hi;exact hi)]);clear hz aI aT;by_cases h8:8<en
    ·have aU:=ZzG (show V=(0,8)by rw[bS.out,if_pos h8]);have bT:(8:Int)<(en:Int):=Qa
     go_wp2;go_ret2;exact⟨by rw[aU.out];rfl,Qi⟩
    ·have bT:¬(8:Int)<(en:Int):=Qa
     have aU:=ZzG (show V=match Zbs (ZaO F es) 0 with|some (k,e)=>((k:Int),e)|none=>(0,0)by rw[bS.out,if_neg h8]);go_wp2;go_loopw [70] (fun i wr=>∃k:Nat,k<=en/\i=.int .i64 k/\Hid (∀j,j<k->(ZaO F es).getD j 0=0)/\wr.heap[w.heap.size]?=some (.cells #[.slice pA F pc,.slice eA en ec] 25)/\QB w wr)(fun i _=>en-(intOf i).toNat);case atStart=>exact⟨0,ZB2 _,rfl,fun j hj=>Qa,M1,I⟩
     case round=>
      clear M1 D I;obtain⟨k,hk,rfl,hz,M1,I⟩:=hrel;have D:=bk2 M1;by_cases aI:k<en
      ·have cA:(k:Int)<(en:Int):=Qa
       obtain⟨x,hx⟩:∃x,es[k]?=some x:=⟨_,ZAm (by rw[Y.out];exact aI)⟩;have aW:=ZA5 hx;obtain⟨b,o,rfl,bW,hc⟩:=(aK.out.below I).E.1 k x hx;have y0:=hc 0 _ rfl;have y1:=hc 1 _ rfl;have y2:=hc 2 _ rfl;simp only[ZBz]at y0;have N:=ZzG (Zeh (np:=F) hx);have cC:¬((ec:Int)<(k:Int)):=Qa
       have bM:(k:Int)<=(ec:Int):=Qa
       have H:=ZzG (by have h1:=ZsP (some ⟨b,o,none⟩) (es.take k) ec wr.heap.size (fun y=>eqS y.nm x.nm) (wr.alloc (.cells #[.string x.nm,.slice x.A x.co.length x.c,x.mo] 76)) (by rw[ZAH];have:=Y.out;omega) (((aK.out.below I).E.1.take' k).below (ZC _ _)) (fun y _ W hW=>ZsU x y wr.heap.size W (Zx hW (ZA _ _ rfl)));rw[ZAH,Y.out,ZBN Qa]at h1;exact h1);obtain⟨q,hq⟩:=Qu ((es.take k).any (fun y=>eqS y.nm x.nm));rw[hq]at H;have X:Hid (Zbe F es k x=Z4 [unl (Zau x.nm.data.toList) 4,unl (!((es.take k).any fun y=>eqS y.nm x.nm)) 5,unl (decide (x.co.length=F)) 10,unl (!((x.mo::x.co).any fun n=>!Zbj n 20)) 2]):=rfl;rw[hq]at X;obtain⟨E,hE⟩:=Qu (Zbe F es k x);rw[hE]at X N;have aX:=ZzG (show x.nm.size<=9223372036854775807 from ZBG (bB.out.en x aW) Qc);have bJ:=ZzG ((aK.out.below I).E.2 x aW);have bZ:=bB.out.co x aW;have bA:=ZzG (aK.out.nil x aW);have cE:=ZI M1;obtain⟨L,hL⟩:=Qu x.co.length;have bC:=ZzG hL;rw[hL]at H X bZ y1;obtain⟨r,hr⟩:=Qu ((x.mo::x.co).any (fun n=>!Zbj n 20));have bO:=ZzG hr;rw[hr]at X;obtain⟨s,hs⟩:=Qu (decide (L=F));rw[hs]at X;have bR:((L:Int)==(F:Int))=s:=by rw[<-hs,ZyZ];simp;omega
       obtain⟨i0,hi,cG,cH,cI⟩:=info_parts info3;clear hc hx aW hq hE hL hr;have aR:=ZzG fun(y:World)=>(⟨rfl,.inr ⟨y.heap.size,1,#[.int .i64 x.mo],rfl,ZBF _,ZA _ _ rfl,ZBF _,Qc,rfl,rfl⟩⟩:(y.alloc (.cells #[x.mo] 3)).ownsRow y.heap.size 3 1 (.slice (some y.heap.size) 1 1) 1 [.int .i64 x.mo]);obtain⟨XA,bV⟩:=Qu x.A;rw[bV]at y1 bJ bA H;rcases XA with _|ad
       ·have aO:x.co=[]:=by cases hh:x.co with|nil=>rfl|cons y l=>obtain⟨b',o',e,-⟩:=bJ.out 0 y (by rw[hh];rfl);cases e
        have bU:L=0:=by rw[<-bC.out,aO];rfl
        subst bU;have cJ:((0:Int)==(F:Int))=s:=bR;clear bR;have bX:=bA.out rfl;rw[bX]at y1 H;have H:=ZzG H.out;go_wp2_with (first|(go_at_call 95;refine H.out.mono ?_;rintro e w3 ⟨rfl,J⟩;have O:=Zx J (ZA wr (.cells #[.string x.nm,.slice none 0 0,x.mo] 76) rfl);have D1:=bk3 O;have N0:=Zx J (Zz M1 (.cells #[.string x.nm,.slice none 0 0,x.mo] 76));have D0:=bk2 N0;have aC:=via I (via (ZC wr (.cells #[.string x.nm,.slice none 0 0,x.mo] 76)) J))|(at_builtin;refine wpList_append_own_none rfl _ _ 31 rfl w3.heap.size 3 i0 1 underlying31 hi _ 1 [.int .i64 x.mo] rfl (aR.out w3) rfl ?_;refine Zsm ?stop));case stop=>
        refine ZzG ?_;refine ZsV ?_;intro w4 bI;have U:QB w3 w4:=by rw[bI];exact ZC _ _
        have aF:=ZzG (show At 1 Zc w4 (some ⟨w3.heap.size,0,none⟩) (x.mo::x.co)by rw[aO,bI];exact(ZM.new (T:=3) w3 [x.mo]).at');have aD:=ZzG (show (x.mo::x.co).length=1 by rw[aO];rfl);clear bI;have aL:=ZzG (by have h1:=Zms _ (x.mo::x.co) 1 (fun n=>!Zbj n 20) w4 (by rw[aD.out];omega) aF.out (fun y _ W hW=>Zmu y W);rw[bO.out,aD.out]at h1;exact h1);have O0:=Zx U N0;have O1:=Zx U O;have aM:=via aC U;have D0:=bk2 O0;have D1:=bk3 O1;clear N0 O aC H;go_wp2_with (go_at_call 70;refine aL.out.mono ?_;rintro e w6 ⟨rfl,Z⟩);have N0:=Zx Z O0;have O:=Zx Z O1;have aN:=via aM Z;clear D0 D1 O0 O1 aM Z aL;have D0:=bk2 N0;have D1:=bk3 O;have cD:=ZI O;refine ZaK w 18 Qb Qb aN ?_;intro aH aG;simp only[ZBr,ZBt,ZzZ,Zz0];repeat (go_big_quiet_step (first
         |(go_at_call 55;with_reducible exact Grew.call (ZfJ _ _ aX.out))|(go_at_call 47;with_reducible exact Zd (ZbH _ _ _))))
        refine wpQuiet_nil ?_;intro wb h G aA;clear aH aG;have P0:=Zx h N0;clear N0 O D0 D1 aN h;have aB:=ZzG X.out.symm;have z:=aB.out;by_cases R:E=0
        ·subst R;go_wp2_with (go_at_call 45;refine(Zcy _ _ _ _ _).mono ?_;rw[z];rintro e w' ⟨rfl,rfl⟩);go_roundw;case rel=>exact⟨k+1,Qa,Qj,(fun j hj=>by
          by_cases aQ:j=k;·rw[aQ,N.out]
          ·exact hz.out j Qa),Zz P0 _,via G (ZC _ _)⟩
         case measure=>exact Qv
        ·have bK : (E != 0) = true := by simpa using R
         have aV:=ZzG (show V=((k:Int),E)by rw[aU.out,ZeW (ZaO F es) 0 k (by simp[ZaO];rw[Y.out];exact aI) hz.out (by rw[N.out];exact R),N.out];simp);go_wp2_with (go_at_call 45;refine(Zcy _ _ _ _ _).mono ?_;rw[z];rintro e w' ⟨rfl,rfl⟩);go_ret2;exact⟨by rw[aV.out];rfl,Qi⟩
       ·go_wp2_with (first|(go_at_call 95;refine H.out.mono ?_;rintro e w3 ⟨rfl,J⟩;have O:=Zx J (ZA wr (.cells #[.string x.nm,.slice (some ad) L x.c,x.mo] 76) rfl);have D1:=bk3 O;have N0:=Zx J (Zz M1 (.cells #[.string x.nm,.slice (some ad) L x.c,x.mo] 76));have D0:=bk2 N0;have aC:=via I (via (ZC wr (.cells #[.string x.nm,.slice (some ad) L x.c,x.mo] 76)) J))|(at_builtin;refine wpList_append_own _ rfl _ _ 31 rfl w3.heap.size 3 i0 (.int .i64 0) 1 8 underlying31 hi cG cH cI rfl Qc _ _ _ rfl (aR.out w3) ad L x.c (x.co.map (Value.int .i64)) rfl ?c0 ?c1 ?c2 ?c3 ?c4 ?c5 ?_));case c0=>rw[ZAD,bC.out,ZBR]
        case c1=>
         intro j u hu;rw[ZAq]at hu;obtain⟨y,hy,rfl⟩:=ZB7.1 hu;obtain⟨b',o',e,-,bY⟩:=((bJ.out.below (via (ZC wr (.cells #[.string x.nm,.slice (some ad) L x.c,x.mo] 76)) J)).below (ZC w3 (.cells #[x.mo] 3))) j y hy;cases e;have e:Addr.add ⟨b',o',none⟩ j=⟨b',o'+j,none⟩:=by unfold Addr.add;split<;>simp_all
         rw[e];simpa using bY 0 _ rfl
        case c2=>intro u hu;obtain⟨y,-,rfl⟩:=ZA3.1 hu;rfl
        case c3=>unfold maxLen;omega
        case c4=>omega
        case c5=>simp
        intro v4 w4 aJ bL _;obtain⟨A4,c4,rfl⟩:=Z2 aJ;have U:QB w3 w4:=ZT (ZC w3 _) bL fun b e=>by cases e;exact ZBF _
        have aZ:=ZaA (l:=x.mo::x.co) aJ;have bN:(x.mo::x.co).length=1+L:=by simp only[ZAB];rw[bC.out];omega
        have aF:=ZzG aZ;have aD:=ZzG bN;clear aJ bL aZ bN;have aL:=ZzG (by have h1:=Zms _ (x.mo::x.co) c4 (fun n=>!Zbj n 20) w4 (by rw[aD.out];omega) aF.out (fun y _ W hW=>Zmu y W);rw[bO.out,aD.out]at h1;exact h1);have O0:=Zx U N0;have O1:=Zx U O;have aM:=via aC U;have D0:=bk2 O0;have D1:=bk3 O1;clear N0 O aC H;go_wp2_with (go_at_call 70;refine aL.out.mono ?_;rintro e w6 ⟨rfl,Z⟩);have N0:=Zx Z O0;have O:=Zx Z O1;have aN:=via aM Z;clear D0 D1 O0 O1 aM Z aL;have D0:=bk2 N0;have D1:=bk3 O;have cD:=ZI O;refine ZaK w 18 Qb Qb aN ?_;intro aH aG;simp only[ZBr,ZBt,ZzZ,Zz0];repeat (go_big_quiet_step (first|(go_at_call 55;with_reducible exact Grew.call (ZfJ _ _ aX.out))|(go_at_call 47;with_reducible exact Zd (ZbH _ _ _))))
        refine wpQuiet_nil ?_;intro wb h G aA;clear aH aG;have P0:=Zx h N0;clear N0 O D0 D1 aN h;have aB:=ZzG X.out.symm;have z:=aB.out;by_cases R:E=0
        ·subst R;go_wp2_with (go_at_call 45;refine(Zcy _ _ _ _ _).mono ?_;rw[z];rintro e w' ⟨rfl,rfl⟩);go_roundw;case rel=>exact⟨k+1,Qa,Qj,(fun j hj=>by
          by_cases aQ:j=k;·rw[aQ,N.out]
          ·exact hz.out j Qa),Zz P0 _,via G (ZC _ _)⟩
         case measure=>exact Qv
        ·have bK : (E != 0) = true := by simpa using R
         have aV:=ZzG (show V=((k:Int),E)by rw[aU.out,ZeW (ZaO F es) 0 k (by simp[ZaO];rw[Y.out];exact aI) hz.out (by rw[N.out];exact R),N.out];simp);go_wp2_with (go_at_call 45;refine(Zcy _ _ _ _ _).mono ?_;rw[z];rintro e w' ⟨rfl,rfl⟩);go_ret2;exact⟨by rw[aV.out];rfl,Qi⟩
      ·obtain rfl:en=k:=Qa
       have cF:=ZzG (show V=(0,0)by rw[aU.out,Zdh (ZaO F es) 0 fun i hi=>hz.out i (by simp[ZaO]at hi;rw[Y.out]at hi;exact hi)]);go_wp2;go_ret2;exact⟨by rw[cF.out];rfl,I⟩
 ·have cK : (S != 0) = true := by simpa using bD
  have aT:=ZzG (show V=(0,S)by rw[hv.out,if_pos bD]);have z:=aB.out;go_wp2_with (go_at_call 45;refine(Zea _ _ _).mono ?_;rw[z];rintro e w' ⟨rfl,rfl⟩);go_ret2;exact⟨by rw[aT.out];rfl,Qi⟩
theorem Zg2(q h:Option Addr)(u j y p:Nat)(ps:List Pa)(es:List En)(w:World)(hB:BookAt w q u ps h j es)(hF:FewB ps es)(E:ps.length=y)(D:es.length=p):Calls prog 46 #[.agg #[.slice q y u,.slice h p j]] w (Qt w ((Zab ps es).2)):=by have F:=ZzG (ZsW q h u j y p ps es (w.alloc (.cells #[.slice q y u,.slice h p j] 25)) (hB.below (ZC _ _)) hF E D);go_enter func46,ntmps46;go_wp2_with (go_at_call 74;refine F.out.mono ?_;rintro e w2 ⟨rfl,z⟩);go_ret;exact⟨rfl,via (ZC _ _) z⟩
def Zaw(ps:List Pa)(es:List En)(k ag:Int):Int:=Z4 [(Zab ps es).2,ZbU k ag]
theorem Zmv(D u:Option Addr)(F y G z:Nat)(ps:List Pa)(es:List En)(k ag:Int)(w:World)(hB:BookAt w D F ps u y es)(hF:FewB ps es)(q:ps.length=G)(p:es.length=z):Calls prog 26 #[.agg #[.slice D G F,.slice u z y],.agg #[k,ag]] w (Qt w (Zaw ps es k ag)):=by
 unfold Zaw;have R:=ZzG fun W (X:QB w W)=>Zg2 D u F y G z ps es W (hB.below X) hF q p;obtain⟨E,S⟩:=Qu ((Zab ps es).2);rw[S]at R |-;clear hB hF q p S;go_enter func26,ntmps26;go_wp2;refine Zbw ?_;intro O h;have H:QB w O:=by rw[h];go_grown
 have U:O.heap[w.heap.size]?=some (.cells #[.slice D G F,.slice u z y] 25):=by rw[h];exact Qs
 have V:O.heap[w.heap.size+1]?=some (.cells #[k,ag] 27):=by rw[h];exact Qs
 have Y:=bk2 U;have Z:=bk2 V;clear h;refine ZaK w 4 Qb Qb H ?_;intro J j;simp only[ZBr,ZBt,ZzZ,Zz0];repeat (go_big_quiet_step (first
  |(go_at_call 46;with_reducible exact Grew.call (R.out _ (j.out _)))|(go_at_call 56;with_reducible exact Grew.call (Zi9 _ _ _))))
 refine wpQuiet_nil ?_;intro wb I N L;clear J j;go_wp2_with (go_at_call 45;refine(Zea _ _ _).mono ?_;rintro e w' ⟨rfl,rfl⟩);go_ret;exact⟨rfl,Qi⟩
def ZP(ps:List Pa)(k ag:Int):List Int:=ps.map fun p=>if k=0 then p.a0 else if ag<=p.a0 then 1 else 0
theorem Zmw{ps:List Pa} {k ag:Int} {j:Nat} {p:Pa} (h:ps[j]?=some p):ZP (ps.take (j+1)) k ag=ZP (ps.take j) k ag++[if k=0 then p.a0 else if ag<=p.a0 then 1 else 0]:=by unfold ZP;rw[ZBn,h];simp
theorem Zmx(pA eA:Option Addr)(pc ec I en:Nat)(ps:List Pa)(k ag:Int)(w:World)(hP:At 5 Pa.cs w pA ps)(aB:ps.length=I)(hp:I<=1000):Calls prog 28 #[.agg #[.slice pA I pc,.slice eA en ec],.agg #[k,ag]] w fun e w'=>(∃A c,e=.returned (.slice A I c)/\w'.ownsRow w.heap.size 3 1 (.slice A I c) I ((ZP ps k ag).map (Value.int .i64)))/\QB w w':=by
 have aC:=ZzG hP;have N:=ZzG aB;obtain⟨i0,hi,U,V,X⟩:=info_parts info3;clear hP aB;go_enter func28,ntmps28;go_wp2;go_loopw [5,11] (fun v i wr=>∃j:Nat,j<=I/\i=.int .i64 j/\Hid (wr.ownsRow (w.heap.size+2) 3 1 v j ((ZP (ps.take j) k ag).map (Value.int .i64)))/\wr.heap[w.heap.size+1]?=some (.cells #[k,ag] 27)/\QB w wr)(fun _ i _=>I-(intOf i).toNat);case atStart=>exact⟨0,ZB2 _,rfl,ZzG (World.ownsRow_nil _ _ _ _),Qs,Qi⟩
 case round=>
  obtain⟨j,hj,rfl,G,M1,H⟩:=hrel;obtain⟨A5,c5,rfl⟩:=Z2 G.out;have D1:=bk2 M1;have aH:=ZI M1;by_cases aE:j<I
  ·have aG:(j:Int)<(I:Int):=Qa
   obtain⟨p,S⟩:∃p,ps[j]?=some p:=⟨_,ZAm (by rw[N.out];exact aE)⟩;obtain⟨b,o,rfl,aF,Y⟩:=aC.out.below H j p S;have y0:=Y 0 _ rfl;have y1:=Y 1 _ rfl;have y2:=Y 2 _ rfl;have y3:=Y 3 _ rfl;have y4:=Y 4 _ rfl;simp only[ZBz]at y0;have E:=ZzG (Zmw (k:=k) (ag:=ag) S);have D:=ZzG (ZK G.out (ZC wr (.cells #[.string p.nm,p.a0,p.a1,p.c0,p.c1] 74)));have J:=ZzG (via H (ZC wr (.cells #[.string p.nm,p.a0,p.a1,p.c0,p.c1] 74)));have M2:=Zz M1 (.cells #[.string p.nm,p.a0,p.a1,p.c0,p.c1] 74);clear Y S G;by_cases L:k=0
   ·have aD:(k==0)=true:=by simp[L]
    have q:=ZzG (show ZP (ps.take (j+1)) k ag=ZP (ps.take j) k ag++[p.a0]by rw[E.out,if_pos L]);replace E:=q;clear q L;go_wp2_with (at_builtin;refine wpList_append_own _ rfl _ _ 31 rfl (w.heap.size+2) 3 i0 (.int .i64 0) 1 8 underlying31 hi U V X rfl Qc _ _ _ rfl (D.out.alloc _) ⟨wr.heap.size+1,0,none⟩ 1 1 [.int .i64 (p.a0)] rfl rfl ?c1 ?c2 ?c3 ?c4 ?c5 ?_);try (case c1=>exact Zbd _ [.int .i64 (p.a0)] _ Qd)
    case c2=>first|rfl|(intro u O;simp at O;subst O;rfl)
    case c3=>first|omega|(unfold maxLen;omega)
    case c4=>omega
    case c5=>have:=H.size;first|omega|(simp;omega)
    intro v' R h y _;have z:=ZzG (show R.ownsRow (w.heap.size+2) 3 1 v' (j+1) ((ZP (ps.take (j+1)) k ag).map (Value.int .i64))from by rw[E.out,ZAL];exact h);have Z:=Zaz y (Zz M2 _) (Zay D.out Qa);have F:QB w R:=ZT (via J.out (ZC _ _)) y fun b e=>by have:=(D.out.lt b e).1;omega
    clear h y;go_wp2;go_roundw;case rel=>exact⟨j+1,Qa,Qj,z.out,Z,F⟩
    case measure=>exact Qv
   ·have aD:(k==0)=false:=by simpa using L
    by_cases ha:ag<=p.a0
    ·have q:=ZzG (show ZP (ps.take (j+1)) k ag=ZP (ps.take j) k ag++[1]by rw[E.out,if_neg L,if_pos ha]);replace E:=q;clear q L;go_wp2_with (at_builtin;refine wpList_append_own _ rfl _ _ 31 rfl (w.heap.size+2) 3 i0 (.int .i64 0) 1 8 underlying31 hi U V X rfl Qc _ _ _ rfl (D.out.alloc _) ⟨wr.heap.size+1,0,none⟩ 1 1 [.int .i64 (1)] rfl rfl ?c1 ?c2 ?c3 ?c4 ?c5 ?_);try (case c1=>exact Zbd _ [.int .i64 (1)] _ Qd)
     case c2=>first|rfl|(intro u O;simp at O;subst O;rfl)
     case c3=>first|omega|(unfold maxLen;omega)
     case c4=>omega
     case c5=>have:=H.size;first|omega|(simp;omega)
     intro v' R h y _;have z:=ZzG (show R.ownsRow (w.heap.size+2) 3 1 v' (j+1) ((ZP (ps.take (j+1)) k ag).map (Value.int .i64))from by rw[E.out,ZAL];exact h);have Z:=Zaz y (Zz M2 _) (Zay D.out Qa);have F:QB w R:=ZT (via J.out (ZC _ _)) y fun b e=>by have:=(D.out.lt b e).1;omega
     clear h y;go_wp2;go_roundw;case rel=>exact⟨j+1,Qa,Qj,z.out,Z,F⟩
     case measure=>exact Qv
    ·have q:=ZzG (show ZP (ps.take (j+1)) k ag=ZP (ps.take j) k ag++[0]by rw[E.out,if_neg L,if_neg ha]);replace E:=q;clear q L;go_wp2_with (at_builtin;refine wpList_append_own _ rfl _ _ 31 rfl (w.heap.size+2) 3 i0 (.int .i64 0) 1 8 underlying31 hi U V X rfl Qc _ _ _ rfl (D.out.alloc _) ⟨wr.heap.size+1,0,none⟩ 1 1 [.int .i64 (0)] rfl rfl ?c1 ?c2 ?c3 ?c4 ?c5 ?_);try (case c1=>exact Zbd _ [.int .i64 (0)] _ Qd)
     case c2=>first|rfl|(intro u O;simp at O;subst O;rfl)
     case c3=>first|omega|(unfold maxLen;omega)
     case c4=>omega
     case c5=>have:=H.size;first|omega|(simp;omega)
     intro v' R h y _;have z:=ZzG (show R.ownsRow (w.heap.size+2) 3 1 v' (j+1) ((ZP (ps.take (j+1)) k ag).map (Value.int .i64))from by rw[E.out,ZAL];exact h);have Z:=Zaz y (Zz M2 _) (Zay D.out Qa);have F:QB w R:=ZT (via J.out (ZC _ _)) y fun b e=>by have:=(D.out.lt b e).1;omega
     clear h y;go_wp2;go_roundw;case rel=>exact⟨j+1,Qa,Qj,z.out,Z,F⟩
     case measure=>exact Qv
  ·obtain rfl:I=j:=Qa
   have aA:=ZzG (show ps.take I=ps by rw[<-N.out,ZBo]);go_wp2;go_ret;exact⟨⟨A5,c5,rfl,ZaN (by have:=G.out;rwa [aA.out]at this) (ZBD _ 2)⟩,H⟩
end Go.Proofs
namespace Go.Proofs
open Go.RowKit
variable {n lo hi k ag:Int} {ps:List Pa} {es:List En}
theorem Zb3{es:List Int}:Z4 es=0↔∀e∈es,e=0:=by induction es with
 |nil=>simp[Z4]|cons e es ih=>
  unfold Z4;by_cases h:e=0;·rw[if_pos h,ih];simp[h]
  ·rw[if_neg h];simp[h]
theorem Za9{b:Bool} (h:n≠0):unl b n=0↔b=true:=by unfold unl;cases b<;>simp[h]
theorem ZaW:Z1 n lo hi=true↔lo<=n/\n<=hi:=by simp[Z1]
theorem Zja:∀(l:List Int)(k:Nat),Zbs l k=none->∀i,i<l.length->l.getD i 0=0
 |[],_,_,i,h=>by simp at h|e::l,k,h,i,hi=>by
  unfold Zbs at h;split at h;·rename_i j;cases i with
   |zero=>simpa using j|succ i=>simpa using Zja l (k+1) h i (by simpa using hi)
  ·cases h
theorem Zmy:∀(l:List Int)(k:Nat) {i:Nat} {e:Int},Zbs l k=some (i,e)->e≠0:=by intro l;induction l<;>grind[Zbs]
theorem Zg3{m:Int}:Zb2 lo hi m=0↔0<=lo/\lo<=m/\0<=hi/\hi<=m/\lo<=hi:=by unfold Zb2;rw[Zb3];simp only[ZAX,ZBe,or_false,forall_eq_or_imp,forall_eq];rw[Za9 Qc,Za9 Qc,ZyW,ZaW,ZaW,decide_eq_true_eq];omega
structure BookR (ps:List Pa)(es:List En):Prop where
 n1:1<=ps.length
 n5:ps.length<=5
 e8:es.length<=8
 part:∀i p,ps[i]?=some p->Zau p.nm.data.toList=true/\(ps.take i).any (fun q=>eqS q.nm p.nm)=false/\(0<=p.a0/\p.a0<=400/\0<=p.a1/\p.a1<=400/\p.a0<=p.a1)/\(0<=p.c0/\p.c0<=20/\0<=p.c1/\p.c1<=20/\p.c0<=p.c1)
 ent:∀i x,es[i]?=some x->Zau x.nm.data.toList=true/\(es.take i).any (fun y=>eqS y.nm x.nm)=false/\x.co.length=ps.length/\∀n∈x.mo::x.co,n.natAbs<=20
theorem ZcC:(Zab ps es).2=0↔BookR ps es:=by
 have I:ZaP ps.length=0↔1<=ps.length/\ps.length<=5:=by unfold ZaP;rw[Zb3];simp only[ZAX,ZBe,or_false,forall_eq_or_imp,forall_eq];rw[Za9 Qc,Za9 Qc,decide_eq_true_eq,decide_eq_true_eq];omega
 have H:∀i p,ZaD ps i p=0↔Zau p.nm.data.toList=true/\(ps.take i).any (fun q=>eqS q.nm p.nm)=false/\(0<=p.a0/\p.a0<=400/\0<=p.a1/\p.a1<=400/\p.a0<=p.a1)/\(0<=p.c0/\p.c0<=20/\0<=p.c1/\p.c1<=20/\p.c0<=p.c1):=fun i p=>by unfold ZaD;rw[Zb3];simp only[ZAX,ZBe,or_false,forall_eq_or_imp,forall_eq];rw[Za9 Qc,Za9 Qc,Zg3,Zg3,Zy3]
 have G:∀i x,Zbe ps.length es i x=0↔Zau x.nm.data.toList=true/\(es.take i).any (fun y=>eqS y.nm x.nm)=false/\x.co.length=ps.length/\∀n∈x.mo::x.co,n.natAbs<=20:=fun i x=>by
  unfold Zbe;rw[Zb3];simp only[ZAX,ZBe,or_false,forall_eq_or_imp,forall_eq];rw[Za9 Qc,Za9 Qc,Za9 Qc,Za9 Qc,Zy3,Zy3,decide_eq_true_eq];have z:∀n:Int,Zbj n 20=true↔n.natAbs<=20:=fun n=>by unfold Zbj;rw[ZaW];omega
  have:(x.mo::x.co).any (fun n=>!Zbj n 20)=false↔∀n∈x.mo::x.co,n.natAbs<=20:=by
   rw[ZzL];constructor;·intro h n F;have:=h n F;rw[<-z];simpa using this
   ·intro h n F;have:=(z n).2 (h n F);simp[this]
  rw[this];simp
 unfold Zab;constructor
 ·intro h;split at h;·rename_i u;exact absurd h u
  ·rename_i u;have u:=I.1 (by simpa using u);split at h;·rename_i k e D;exact absurd h (Zmy _ _ D)
   ·rename_i D;split at h;·cases h
    ·rename_i J;split at h;·rename_i k e E;exact absurd h (Zmy _ _ E)
     ·rename_i E;refine⟨u.1,u.2,Qa,fun i p hi=>?_,fun i x hi=>?_⟩;·rw[<-H,<-Zdi hi];exact Zja _ _ D i (by simpa [Za8] using (ZAp.1 hi).1)
      ·rw[<-G,<-Zeh hi];exact Zja _ _ E i (by simpa [ZaO] using (ZAp.1 hi).1)
 ·intro h;rw[if_neg (by simp[I.2 ⟨h.n1,h.n5⟩])];rw[Zdh (Za8 ps) 0 fun i hi=>by
   have j:i<ps.length:=by simpa [Za8] using hi
   rw[Zdi (ZAm j),H];exact h.part i _ (ZAm j)];simp only;rw[if_neg (by have:=h.e8;omega)];rw[Zdh (ZaO ps.length es) 0 fun i hi=>by
   have j:i<es.length:=by simpa [ZaO] using hi
   rw[Zeh (ZAm j),G];exact h.ent i _ (ZAm j)]
theorem BookR.right(h:BookR ps es):RightE es ps.length:=by refine⟨h.e8,fun x u=>?_⟩;obtain⟨i,hi⟩:=ZA2.1 u;obtain⟨-,-,p,j⟩:=h.ent i x hi;exact⟨p,fun n q=>j n (ZAY _ q),j _ Qd⟩
theorem BookR.worths(h:BookR ps es)(k ag:Int):ZE 400 (ZP ps k ag):=by
 intro n j;obtain⟨p,q,rfl⟩:=ZA3.1 j;obtain⟨i,hi⟩:=ZA2.1 q;obtain⟨-,-,u,-⟩:=h.part i p hi;split;·omega
 ·split<;>decide
theorem Zg4:Zaw ps es k ag=0↔BookR ps es/\ZbU k ag=0:=by unfold Zaw;rw[Zb3];simp only[ZAX,ZBe,or_false,forall_eq_or_imp,forall_eq];rw[ZcC]
theorem Zjb:ZbU k ag=0↔(k=0∨k=1)/\0<=ag/\ag<=400:=by unfold ZbU;rw[Zb3];simp only[ZAX,ZBe,or_false,forall_eq_or_imp,forall_eq];rw[Za9 Qc,Za9 Qc,ZaW,ZaW];omega
end Go.Proofs
