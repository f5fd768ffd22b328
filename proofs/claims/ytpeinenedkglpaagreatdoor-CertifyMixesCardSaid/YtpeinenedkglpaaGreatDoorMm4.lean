import Derived.Test.YtpeinenedkglpaaGreatDoorMm3
import Derived.Handy
import Derived.WalkLawsBesides
import Derived.WalkSpells
import Derived.Lib.ConvBytes
import Derived.Lib.Hide
import Derived.StillTail
import Derived.BigQuiet
import Derived.RangeFuncKeeps
import Derived.Deep.OwnRows
import Derived.Laws.AppendOwnNone
import Derived.Deep.AppendLies
set_option linter.unusedVariables false
set_option linter.unusedSimpArgs false
set_option maxRecDepth 100000
set_option maxHeartbeats 16000000
namespace Go
theorem ZuJ:type_of% @RowKit.Below.heap_setCell:=@RowKit.Below.heap_setCell
theorem ZuK:type_of% @RowKit.Below.refl:=@RowKit.Below.refl
theorem ZuR:type_of% @Bool.false_or:=@Bool.false_or
theorem ZuZ:type_of% @Bool.true_or:=@Bool.true_or
theorem Zva:type_of% @IntWalk.i64_in:=@IntWalk.i64_in
theorem Zvc:type_of% @Lib.hid:=@Lib.hid
theorem Zvf:type_of% @List.any_append:=@List.any_append
theorem Zvg:type_of% @List.any_eq_false:=@List.any_eq_false
theorem Zvh:type_of% @List.any_eq_true:=@List.any_eq_true
theorem Zvi:type_of% @List.append_assoc:=@List.append_assoc
theorem Zvk:type_of% @List.append_toArray:=@List.append_toArray
theorem Zvm:type_of% @List.cons_append:=@List.cons_append
theorem Zvs:type_of% @List.drop_eq_getElem_cons:=@List.drop_eq_getElem_cons
theorem Zvt:type_of% @List.drop_succ_cons:=@List.drop_succ_cons
theorem Zvu:type_of% @List.drop_zero:=@List.drop_zero
theorem Zvw:type_of% @List.eq_nil_of_length_eq_zero:=@List.eq_nil_of_length_eq_zero
theorem ZvB:type_of% @List.flatMap_cons:=@List.flatMap_cons
theorem ZvE:type_of% @List.getD_cons_succ:=@List.getD_cons_succ
theorem ZvG:type_of% @List.getD_eq_getElem?_getD:=@List.getD_eq_getElem?_getD
theorem ZvH:type_of% @List.getElem?_append_left:=@List.getElem?_append_left
theorem ZvI:type_of% @List.getElem?_append_right:=@List.getElem?_append_right
theorem ZvJ:type_of% @List.getElem?_cons_succ:=@List.getElem?_cons_succ
theorem ZvK:type_of% @List.getElem?_cons_zero:=@List.getElem?_cons_zero
theorem ZvL:type_of% @List.getElem?_eq_getElem:=@List.getElem?_eq_getElem
theorem ZvO:type_of% @List.getElem?_eq_some_iff:=@List.getElem?_eq_some_iff
theorem ZvP:type_of% @List.getElem?_map:=@List.getElem?_map
theorem ZvU:type_of% @List.getElem?_take:=@List.getElem?_take
theorem ZvX:type_of% @List.getElem_mem:=@List.getElem_mem
theorem Zv0:type_of% @List.length_cons:=@List.length_cons
theorem Zv2:type_of% @List.length_map:=@List.length_map
theorem Zv5:type_of% @List.length_take:=@List.length_take
theorem Zv9:type_of% @List.map_append:=@List.map_append
theorem Zwb:type_of% @List.map_map:=@List.map_map
theorem Zwg:type_of% @List.mem_append_left:=@List.mem_append_left
theorem Zwj:type_of% @List.mem_cons_of_mem:=@List.mem_cons_of_mem
theorem Zwm:type_of% @List.mem_map:=@List.mem_map
theorem Zwo:type_of% @List.mem_range:=@List.mem_range
theorem Zwr:type_of% @List.nil_append:=@List.nil_append
theorem Zwt:type_of% @List.not_mem_nil:=@List.not_mem_nil
theorem Zwu:type_of% @List.range_succ:=@List.range_succ
theorem Zwx:type_of% @List.set_append_right:=@List.set_append_right
theorem Zwy:type_of% @List.size_toArray:=@List.size_toArray
theorem Zwz:type_of% @List.sum_cons:=@List.sum_cons
theorem ZwA:type_of% @List.take_add_one:=@List.take_add_one
theorem ZwB:type_of% @List.take_length:=@List.take_length
theorem ZwC:type_of% @List.take_of_length_le:=@List.take_of_length_le
theorem ZwD:type_of% @List.take_succ_cons:=@List.take_succ_cons
theorem ZwE:type_of% @List.take_succ_eq_append_getElem:=@List.take_succ_eq_append_getElem
theorem ZwF:type_of% @List.take_zero:=@List.take_zero
theorem ZwI:type_of% @Nat.add_mul:=@Nat.add_mul
theorem ZwJ:type_of% @Nat.add_sub_cancel:=@Nat.add_sub_cancel
theorem ZwT:type_of% @Nat.lt_or_ge:=@Nat.lt_or_ge
theorem ZwX:type_of% @Nat.min_eq_left:=@Nat.min_eq_left
theorem ZwY:type_of% @Nat.mul_le_mul:=@Nat.mul_le_mul
theorem ZwZ:type_of% @Nat.mul_le_mul_right:=@Nat.mul_le_mul_right
theorem Zw0:type_of% @Nat.mul_one:=@Nat.mul_one
theorem Zw5:type_of% @Nat.pow_le_pow_right:=@Nat.pow_le_pow_right
theorem Zw8:type_of% @Nat.two_pow_pos:=@Nat.two_pow_pos
end Go
namespace Go.Proofs
open Tryz
open Go.RowKit
variable {l:List UInt8} {k:Nat}
theorem Zbn{k:IntKind} {a b:Int} (h:a=b):Ending.returned (.int k a)=.returned (.int k b):=by rw[h]
theorem ZoY(n b:Int)(hb:0<b)(h:n.tmod b<0):n.tdiv b-1=n / b:=by
 have h1:=Int.mul_tdiv_add_tmod n b;have h2:-b<n.tmod b:=by have:=Int.lt_tmod_of_pos n hb;omega
 rw[eq_comm];have:n=b*(n.tdiv b-1)+(n.tmod b+b):=by rw[Int.mul_sub];omega
 rw[this,Int.mul_add_ediv_left _ _ (by omega),Int.ediv_eq_zero_of_lt (by omega) (by omega)];rw[<-this];omega
theorem ZoZ(n b:Int)(hb:0<b)(h:0<=n.tmod b):n.tdiv b=n / b:=by
 have h1:=Int.mul_tdiv_add_tmod n b;have h2:=Int.tmod_lt_of_pos n hb;rw[eq_comm];have:n=b*(n.tdiv b)+(n.tmod b):=by omega
 rw[this,Int.mul_add_ediv_left _ _ (by omega),Int.ediv_eq_zero_of_lt (by omega) (by omega)];rw[<-this];omega
def ZeU(c:Int):Bool:=(decide (97<=c)&&decide (c<=122))||(decide (65<=c)&&decide (c<=90))
def Zbz(i:Nat)(c:Int):Bool:=ZeU c||(decide (i≠0)&&(decide (c=45)||(decide (48<=c)&&decide (c<=57))))
def Zcz(l:List UInt8):Bool:=(List.range l.length).all fun i=>Zbz i ((l.getD i 0).toNat:Int)
def Zah(l:List UInt8):Bool:=decide (1<=l.length)&&decide (l.length<=12)&&Zcz l
theorem ZjT(l:List UInt8)(h:∀j,j<l.length->Zbz j ((l.getD j 0).toNat:Int)=true):Zcz l=true:=by unfold Zcz;rw[Zve];intro j hj;exact h j (Zwo.1 hj)
theorem Zo0(l:List UInt8)(j:Nat)(hj:j<l.length)(h:Zbz j ((l.getD j 0).toNat:Int)=false):Zcz l=false:=by unfold Zcz;rw[List.all_eq_false];exact⟨j,Zwo.2 hj,by rw[h];decide⟩
theorem Zhj{c:UInt8} (h:Hid (∀j,j<k->Zbz j ((l.getD j 0).toNat:Int)=true))(hc:Hid (l.getD k 0=c))(h2:Zbz k (c.toNat:Int)=true):Hid (∀j,j<k+1->Zbz j ((l.getD j 0).toNat:Int)=true):=by
 intro j hj;by_cases e:j=k;·subst e;rw[hc.out];exact h2
 ·exact h.out j (by omega)
theorem Zhk{n:Nat} {c:UInt8} (hl:Hid (l.length=n))(hk:k<n)(hc:Hid (l.getD k 0=c))(h2:Zbz k (c.toNat:Int)=false):Zah l=false:=by unfold Zah;rw[Zo0 l k (by rw[hl.out];exact hk) (by rw[hc.out];exact h2)];simp
theorem Zhl(k:Nat)(c:Int)(h:(97<=c/\c<=122)∨(65<=c/\c<=90)∨(k≠0/\(c=45∨(48<=c/\c<=57)))):Zbz k c=true:=by unfold Zbz ZeU;simp only[ZuV,ZuM,decide_eq_true_eq];omega
theorem Zhm(k:Nat)(c:Int)(h:¬((97<=c/\c<=122)∨(65<=c/\c<=90)∨(k≠0/\(c=45∨(48<=c/\c<=57))))):Zbz k c=false:=by rw[<-Bool.not_eq_true];unfold Zbz ZeU;simp only[ZuV,ZuM,decide_eq_true_eq];omega
theorem Zo1(l:List UInt8)(n:Nat)(hl:l.length=n)(hcs:Zcz l=true):Zah l=(!l.isEmpty&&decide ((n:Int)<=12)):=by unfold Zah;rw[hcs,Bool.and_true,<-hl];cases l<;>simp;omega
theorem Zck{a b:Bool} (h:a=b):Ending.returned (.bool a)=.returned (.bool b):=by rw[h]
theorem ZeV(s:ByteArray)(w:World)(hs:s.size<=9223372036854775807):Calls prog 40 #[.string s] w fun e w'=>e=.returned (.bool (Zah s.data.toList))/\Below w.heap.size w w':=by
  have hconv:=fun W:World=>Lib.run_convert_string_bytes (P:=prog) W 9 125 5 s underlying9 underlying125 underlying5;have hB:Hid (Below w.heap.size w (Lib.bytesWorld w 5 s)):=⟨rfl,rfl,rfl,by rw[Lib.bytesWorld_size];omega,fun k hk=>Lib.bytesWorld_at_old w 5 s k hk⟩;have hlen:Hid (s.data.toList.length=s.size):=by simp[Hid]
  go_enter func40,ntmps40;go_wp2;clear hconv;go_loop [9] (fun i=>∃k:Nat,k<=s.size/\i=.int .i64 k/\Hid (∀j,j<k->Zbz j ((s.data.toList.getD j 0).toNat:Int)=true))(fun i=>s.size-(intOf i).toNat);case atStart=>exact⟨0,Zxa _,rfl,fun j hj=>by omega⟩
  case round=>
    obtain⟨k,hk,rfl,hok⟩:=hrel;by_cases hlt:k<s.size
    · obtain⟨c,hc⟩:∃c:UInt8,s.data.toList.getD k 0=c:=⟨_,rfl⟩;have hcell:=Lib.bytesWorld_cell w 5 s k hlt;rw[hc]at hcell;have hc':=Zvc hc;clear hc;have hb0:(0:Int)<=(c.toNat:Int):=by omega
      go_wp2;all_goals first
        |(exfalso;simp at*;omega)
        | (go_round;case rel=>exact⟨k+1,by omega,by go_num,Zhj hok hc' (Zhl _ _ (by simp at*;omega))⟩
           case measure=>simp[intOf];omega)|(go_ret;exact⟨Zck (Zhk (k:=k) hlen hlt hc' (Zhm _ _ (by simp at*;omega))).symm,hB.out⟩)
    · have hkk:k=s.size:=by omega
      subst hkk;by_cases he:s.toList=[];all_goals go_wp2;go_ret;refine⟨Zck ?_,hB.out⟩;have hcs:Zcz s.data.toList=true:=ZjT _ (fun j hj=>hok.out j (by rw[hlen.out]at hj;exact hj));rw[Zo1 _ _ hlen.out hcs,<-ByteArray.toList_eq]<;>simp[he]
end Go.Proofs
namespace Go.Proofs
open Go.RowKit
variable {w:World} {P:Program} {f:FuncId} {args:Array Value} {v:Value} {a:Act} {id:Nat} {Q:Exit->Act->World->Prop} {l:List Oper}
section
variable {P:Program} {ops:Array Oper} {md:Region.Mode} {C:World->Prop}
def ZeW(P:Program)(md:Region.Mode)(ops:Array Oper)(C:World->Prop)(n:Nat)(L:Array Bool->Act->Prop):Nat->Array Bool->Act->Prop|0,listed,a=>L listed a|f+1,listed,a=>Region.ready md ops listed≠[]/\∀i∈Region.ready md ops listed,i<n/\qOp P ops C i (ZeW P md ops C n L f (listed.setIfInBounds i true)) a
theorem ZjU{n g:Nat} {L:Array Bool->Act->Prop} {Q':Exit->Act->World->Prop} (hL:∀listed a w,C w->L listed a->wpAny P md ops Q' g listed a w):∀(f:Nat)(listed:Array Bool)(a:Act)(w:World),C w->ZeW P md ops C n L f listed a->wpAny P md ops Q' (f+g) listed a w|0,listed,a,w,hw,h=>by rw[Zw9];exact hL _ _ _ hw h|f+1,listed,a,w,hw,h=>by rw[show f+1+g=(f+g)+1 by omega];exact⟨fun h0=>absurd h0 h.1,fun i hi=>wpOp_of_qOp hw (fun a' w' hw' h'=>ZjU hL f _ a' w' hw' h') (h.2 i hi).2⟩
theorem Zo2{n i:Nat} {oi:Oper} {v:Value} {L:Array Bool->Act->Prop} (hi:ops[i]?=some oi)(hsel:∀(j:Nat)(o:Oper) cs b,ops[j]?=some o->o.op≠.select cs b)(hs:Region.sinkB md ops n=true)(hc:Region.chainB md ops n=true)(hn:n<ops.size)(hin:i<n)(hdone:∀listed a,L listed a->∀j∈Region.ready md ops listed,n<=j):∀(f:Nat)(listed:Array Bool)(a:Act),HeadInv md ops n listed->(∀j oj,ops[j]?=some oj->j≠i->listed.getD j true=false->(∀e∈oj.after,Region.binds md e=true->e.on≠i)->oi.apart ops oj=true)->i∈Region.ready md ops listed->YieldsIn P ops C oi v a->ZeW P md ops C n L f (listed.setIfInBounds i true) (a.put oi.dst v)->ZeW P md ops C n L (f+1) listed a:=by intro f;induction f with
 |zero=>
  intro listed a inv _ hr hy H;refine⟨fun h=>(by rw[h]at hr;cases hr),fun j hj=>?_⟩;have hjn:j<n:=by
   rcases ZwT j n with h|h;·exact h
   ·exact absurd hj (tail_waits hs hc hn inv _ i rfl hin (mem_ready.1 hr).1 j h)
  refine⟨hjn,?_⟩;by_cases hji:j=i;·subst hji;exact hy.qOp hi H
  ·have:=hdone _ _ H j (ready_mono hj hji);omega|succ f ih=>
  intro listed a inv hfree hr hy H;refine⟨fun h=>(by rw[h]at hr;cases hr),fun j hj=>?_⟩;have hjn:j<n:=by
   rcases ZwT j n with h|h;·exact h
   ·exact absurd hj (tail_waits hs hc hn inv _ i rfl hin (mem_ready.1 hr).1 j h)
  refine⟨hjn,?_⟩;by_cases hji:j=i;·subst hji;exact hy.qOp hi H
  ·have h1:=(H.2 j (ready_mono hj hji)).2;obtain⟨hjun,oj,hoj,hall⟩:=mem_ready.1 hj;have hnot:∀e∈oj.after,Region.binds md e=true->e.on≠i:=fun e he hb heq=>by have h1:=hall e he hb;have h0:=(mem_ready.1 hr).1;rw[heq,getD_both h0]at h1;cases h1
   have h2:=qOp_put hoj (hfree j oj hoj hji hjun hnot) (fun cs b=>hsel i oi cs b hi) (fun cs b=>hsel j oj cs b hoj) hy h1;have hfree':∀k ok,ops[k]?=some ok->k≠i->(listed.setIfInBounds j true).getD k true=false->(∀e∈ok.after,Region.binds md e=true->e.on≠i)->oi.apart ops ok=true:=fun k ok hk hki hun hno=>by
    refine hfree k ok hk hki ?_ hno;by_cases hjk:j=k;·subst hjk;exact hjun
    ·rw[getD_set_ne true hjk]at hun;exact hun
   refine qOp_mono (fun a' h3=>ih (listed.setIfInBounds j true) a' (inv.set hj hjn) hfree' (ready_mono hr (Ne.symm hji)) h3.1 ?_) h2;rw[Array.setIfInBounds_comm _ _ hji];exact h3.2
theorem ZjV{n g:Nat} {Lq:Act->Prop} (hsel:Region.noSelect ops=true)(hs:Region.sinkB md ops n=true)(hc:Region.chainB md ops n=true)(hn:n<ops.size):∀(l:List Oper)(k:Nat)(listed:Array Bool)(a:Act),(∀j,j<l.length->l[j]?=ops[k+j]?)->k+l.length=n->HeadInv md ops n listed->Region.lexHead md ops g l.length k listed=true->wpQuiet P ops C Lq l a->ZeW P md ops C n (fun listed a=>Region.seqB md ops g n listed=true/\Lq a) l.length listed a
 |[],k,listed,a,_,hk,_,hB,h=>by
  have:k=n:=by simpa using hk
  subst this;exact⟨by simpa [Region.lexHead] using hB,h⟩|o::l,k,listed,a,hl,hk,inv,hB,h=>by
  have h0:ops[k]?=some o:=by simpa using (hl 0 (by simp)).symm
  simp only[Zv0,Region.lexHead,ZuM]at hB;obtain⟨⟨hr,hf⟩,hB'⟩:=hB;have hkn:k<n:=by simp only[Zv0]at hk;omega
  have hr':k∈Region.ready md ops listed:=by simpa using hr
  have hst:qOp P ops C k (wpQuiet P ops C Lq l) a:=by unfold qOp;simp only[h0];exact h
  obtain⟨v,hy,hK⟩:=yieldsIn_of_qOp h0 hst;exact Zo2 h0 (Region.noSelect_spec hsel) hs hc hn hkn (fun listed' a' hL=>seqB_ready hL.1) l.length listed a inv (Region.free_spec h0 hf) hr' hy (ZjV hsel hs hc hn l (k+1) _ _ (fun j hj=>by have:=hl (j+1) (by simp;omega);simpa [Nat.add_assoc,ZwH 1 j] using this) (by simp only[Zv0]at hk;omega) (inv.set hr' hkn) hB' hK)
theorem Zo3{id:Nat} {Q:Exit->Act->World->Prop} {a:Act} {w:World} {l:List Oper} (n:Nat)(hm:P.follows .mixedOrders=true)(hB:Region.lexTailB .any l.toArray n=true)(hC:C {w with drawn:=w.drawn+1})(h:wpQuiet P l.toArray C (fun a'=>∀w',C w'->wpList P l.toArray Q (l.drop n) a' w') (l.take n) a):(Code.region id l.toArray true).wp P Q a w:=by
 simp only[Region.lexTailB,ZuM,decide_eq_true_eq]at hB;obtain⟨⟨⟨⟨hsel,hn⟩,hs⟩,hc⟩,hlex⟩:=hB;have hn':n<l.length:=by simpa using hn
 have htl:(l.take n).length=n:=by simp;omega
 have hdl:(l.drop n).length=l.toArray.size-n:=by simp
 have inv0:HeadInv .any l.toArray n (Array.replicate l.toArray.size false):=⟨by simp,fun j oj _ hl=>(by rw[getD_replicate_false]at hl;cases hl),fun t _ ht=>getD_in (by simpa using ht) (getD_replicate_false _ _)⟩;have H:=ZjV (C:=C) (P:=P) (md:=.any) (g:=l.toArray.size-n) hsel hs hc hn (l.take n) 0 _ a (fun j hj=>by
  have hj':j<n:=by rw[htl]at hj;exact hj
  simp[hj']) (by simpa using htl) inv0 (by rw[htl];exact hlex) h;refine wp_region_any hm ?_;have:=ZjU (Q':=Q) (g:=l.toArray.size-n) (fun listed a' w' hw' hL=>by have:=wpAny_of_seq (md:=.any) (Q':=Q) (l.drop n) n listed a' w' (fun j=>by simp[List.getElem?_drop]) (by rw[hdl];exact hL.1) (hL.2 w' hw');rwa [hdl]at this) _ _ _ _ hC H;rw[htl,show n+(l.toArray.size-n)=l.toArray.size by omega]at this;exact this
end
structure Grew (w:World) where
 val:World
 ok:Below w.heap.size w val
instance (w:World):Nonempty (Grew w):=⟨⟨w,ZuK _ w⟩⟩
theorem Grew.cell(x:Grew w)(b o:Nat)(h:b<w.heap.size):x.val.cell? ⟨b,o,none⟩=w.cell? ⟨b,o,none⟩:=x.ok.cell (p:=⟨b,o,none⟩) h
theorem Grew.call{x:Grew w} (h:Calls P f args x.val fun e w'=>e=.returned v/\Below x.val.heap.size x.val w'):Calls P f args x.val fun e w''=>e=.returned v/\∃y:Grew w,w''=y.val:=h.mono fun _ w' ⟨he,hb⟩=>⟨he,⟨w',x.ok.trans (hb.mono x.ok.size)⟩,rfl⟩
theorem Zd{x:Grew w} (h:Calls P f args x.val fun e w'=>e=.returned v/\x.val=w'):Calls P f args x.val fun e w''=>e=.returned v/\∃y:Grew w,w''=y.val:=h.mono fun _ _ ⟨he,hb⟩=>⟨he,x,hb.symm⟩
theorem via{a b:World} (h1:Below w.heap.size w a)(h2:Below a.heap.size a b):Below w.heap.size w b:=h1.trans (h2.mono h1.size)
theorem ZjW{a:World} (h1:Below w.heap.size w a)(o:Obj):Below w.heap.size w (a.alloc o):=h1.alloc h1.size o
theorem ZC(w:World)(o:Obj):Below w.heap.size w (w.alloc o):=(ZuK _ _).alloc (ZwO _) o
theorem Zo4(n:Nat)(hm:P.follows .mixedOrders=true)(hB:Region.lexTailB .any l.toArray n=true)(h:wpQuiet P l.toArray (fun w'=>∃x:Grew w,w'=x.val) (fun a'=>∀x:Grew w,wpList P l.toArray Q (l.drop n) a' x.val) (l.take n) a):(Code.region id l.toArray true).wp P Q a w:=by
 refine Zo3 (C:=fun w'=>∃x:Grew w,w'=x.val) n hm hB ⟨⟨_,(ZuK _ w).drew⟩,rfl⟩ ?_;have e:(fun a'=>∀w',(∃x:Grew w,w'=x.val)->wpList P l.toArray Q (l.drop n) a' w')=(fun a'=>∀x:Grew w,wpList P l.toArray Q (l.drop n) a' x.val):=by funext a';exact propext ⟨fun h x=>h _ ⟨x,rfl⟩,fun h w' ⟨x,hx⟩=>hx▸h x⟩
 rw[e];exact h
theorem Zo5(hm:P.follows .mixedOrders=true)(hB:Region.lexB .any l.toArray=true)(h:wpQuiet P l.toArray (fun w'=>∃x:Grew w,w'=x.val) (fun a'=>∀x:Grew w,Q .normal a' x.val) l a):(Code.region id l.toArray true).wp P Q a w:=by
 refine wp_region_quiet (C:=fun w'=>∃x:Grew w,w'=x.val) hm hB ⟨⟨_,(ZuK _ w).drew⟩,rfl⟩ ?_;have e:(fun a'=>∀w',(∃x:Grew w,w'=x.val)->Q .normal a' w')=(fun a'=>∀x:Grew w,Q .normal a' x.val):=by funext a';exact propext ⟨fun h x=>h _ ⟨x,rfl⟩,fun h w' ⟨x,hx⟩=>hx▸h x⟩
 simp only[e];exact h
theorem Zav(w0:World)(n:Nat)(hm:P.follows .mixedOrders=true)(hB:Region.lexTailB .any l.toArray n=true)(hw:Below w0.heap.size w0 w)(h:(∀(x:Grew w)(b o:Nat),b<w.heap.size->x.val.cell? ⟨b,o,none⟩=w.cell? ⟨b,o,none⟩)->Hid (∀x:Grew w,Below w0.heap.size w0 x.val)->wpQuiet P l.toArray (fun w'=>∃x:Grew w,w'=x.val) (fun a'=>∀W1,Below w.heap.size w W1->Below w0.heap.size w0 W1->w.heap.size<=W1.heap.size->wpList P l.toArray Q (l.drop n) a' W1) (l.take n) a):(Code.region id l.toArray true).wp P Q a w:=by
 refine Zo4 n hm hB ?_;have e:(fun a'=>∀W1,Below w.heap.size w W1->Below w0.heap.size w0 W1->w.heap.size<=W1.heap.size->wpList P l.toArray Q (l.drop n) a' W1)=(fun a'=>∀x:Grew w,wpList P l.toArray Q (l.drop n) a' x.val):=by funext a';exact propext ⟨fun h x=>h x.val x.ok (via hw x.ok) x.ok.size,fun h W1 hb _ _=>h ⟨W1,hb⟩⟩
 rw[<-e];exact h (fun x=>x.cell) (fun x=>via hw x.ok)
theorem ZbA(w0:World)(hm:P.follows .mixedOrders=true)(hB:Region.lexB .any l.toArray=true)(hw:Below w0.heap.size w0 w)(h:(∀(x:Grew w)(b o:Nat),b<w.heap.size->x.val.cell? ⟨b,o,none⟩=w.cell? ⟨b,o,none⟩)->Hid (∀x:Grew w,Below w0.heap.size w0 x.val)->wpQuiet P l.toArray (fun w'=>∃x:Grew w,w'=x.val) (fun a'=>∀W1,Below w.heap.size w W1->Below w0.heap.size w0 W1->w.heap.size<=W1.heap.size->Q .normal a' W1) l a):(Code.region id l.toArray true).wp P Q a w:=by
 refine Zo5 hm hB ?_;have e:(fun a'=>∀W1,Below w.heap.size w W1->Below w0.heap.size w0 W1->w.heap.size<=W1.heap.size->Q .normal a' W1)=(fun a'=>∀x:Grew w,Q .normal a' x.val):=by funext a';exact propext ⟨fun h x=>h x.val x.ok (via hw x.ok) x.ok.size,fun h W1 hb _ _=>h ⟨W1,hb⟩⟩
 rw[<-e];exact h (fun x=>x.cell) (fun x=>via hw x.ok)
end Go.Proofs
namespace Go.Proofs
open Tryz
open Go.RowKit
def ZX(n lo hi:Int):Bool:=decide (lo<=n)&&decide (n<=hi)
theorem ZbG(n lo hi:Int)(w:World):Calls prog 42 #[.int .i64 n,.int .i64 lo,.int .i64 hi] w fun e w'=>e=.returned (.bool (ZX n lo hi))/\w=w':=by unfold ZX;by_cases h:lo<=n<;>by_cases h2:n<=hi;all_goals go_enter func42,ntmps42;go_wp2;go_ret;simp_all
theorem Zdz(n lo hi:Int)(w:World):Calls prog 51 #[.int .i64 n,.int .i64 lo,.int .i64 hi] w fun e w'=>e=.returned (.bool (ZX n lo hi))/\w=w':=by unfold ZX;by_cases h:lo<=n<;>by_cases h2:n<=hi;all_goals go_enter func51,ntmps51;go_wp2;go_ret;simp_all
def unl(b:Bool)(n:Int):Int:=if b then 0 else n
theorem Zbd(b:Bool)(n:Int)(w:World):Calls prog 39 #[.bool b,.int .i64 n] w fun e w'=>e=.returned (.int .i64 (unl b n))/\w=w':=by cases b;all_goals go_enter func39,ntmps39;go_wp2;go_ret;simp_all[unl]
def firstE:List Int->Int|[]=>0|e::l=>if e=0 then firstE l else e
theorem ZjX(es:List Int):∀k,(∀j,j<k->es.getD j 0=0)->firstE es=firstE (es.drop k):=by intro k;induction k generalizing es with|zero=>intro _;simp|succ k ih=>intro h;cases es with|nil=>simp|cons e l=>
   have he:e=0:=by simpa using h 0 (by omega)
   simp only[firstE,he,if_true,Zvt];exact ih l (fun j hj=>by simpa using h (j+1) (by omega))
theorem Zo6(es:List Int)(k:Nat)(hk:k<es.length)(h:∀j,j<k->es.getD j 0=0)(hne:es.getD k 0≠0):firstE es=es.getD k 0:=by
 rw[ZjX es k h,Zvs hk];have:es.getD k 0=es[k]:=by simp[hk]
 simp only[firstE];rw[if_neg (by rw[<-this];exact hne),this]
theorem Zo7(es:List Int)(h:∀j,j<es.length->es.getD j 0=0):firstE es=0:=by rw[ZjX es es.length h];simp[firstE]
theorem ZjY(es:List Int)(b:Nat)(w:World)(hl:es.length<=100)(hc:∀j,j<es.length->w.cell? ⟨b,j,none⟩=some (.int .i64 (es.getD j 0))):Calls prog 37 #[.slice (some ⟨b,0,none⟩) es.length es.length] w fun e w'=>e=.returned (.int .i64 (firstE es))/\w=w':=by
 have hc':=Zvc hc;clear hc;go_enter func37,ntmps37;go_wp2;go_loop [7] (fun i=>∃k:Nat,k<=es.length/\i=.int .i64 k/\Hid (∀j,j<k->es.getD j 0=0))(fun i=>es.length-(intOf i).toNat);case atStart=>exact⟨0,Zxa _,rfl,fun j hj=>by omega⟩
 case round=>
  obtain⟨k,hk,rfl,hz⟩:=hrel;by_cases hlt:k<es.length
  ·have hck:=hc'.out k hlt;obtain⟨v,hv⟩:∃v,es.getD k 0=v:=⟨_,rfl⟩;rw[hv]at hck;have hv':=Zvc hv;clear hv;by_cases h0:v=0
   ·have hb : (v != 0) = false := by simp [h0]
    have h0':=Zvc h0;clear h0;go_wp2;go_round;case rel=>exact⟨k+1,by omega,by go_num,fun j hj=>by
     by_cases e:j=k;·subst e;rw[hv'.out];exact h0'.out
     ·exact hz.out j (by omega)⟩
    case measure=>simp[intOf];omega
   ·have hb : (v != 0) = true := by simp [h0]
    go_wp2;go_ret;exact⟨Zbn (by rw[Zo6 es k hlt hz.out (by rw[hv'.out];exact h0)];exact hv'.out.symm),rfl⟩
  ·go_wp2;go_ret;exact⟨Zbn (Zo7 es (fun j hj=>hz.out j (by omega))).symm,rfl⟩
theorem Zc1(a b:Int)(w:World):Calls prog 37 #[.slice (some ⟨w.heap.size,0,none⟩) 2 2] (w.alloc (.cells #[.int .i64 a,.int .i64 b] 35)) fun e w'=>e=.returned (.int .i64 (firstE [a,b]))/\w.alloc (.cells #[.int .i64 a,.int .i64 b] 35)=w':=ZjY [a,b] w.heap.size _ (by simp) (fun j hj=>by rw[World.cell?_alloc_at _ _ _ _ rfl];match j,hj with|0,_=>rfl|1,_=>rfl)
theorem Zcb(a b c d:Int)(w:World):Calls prog 37 #[.slice (some ⟨w.heap.size,0,none⟩) 4 4] (w.alloc (.cells #[.int .i64 a,.int .i64 b,.int .i64 c,.int .i64 d] 35)) fun e w'=>e=.returned (.int .i64 (firstE [a,b,c,d]))/\w.alloc (.cells #[.int .i64 a,.int .i64 b,.int .i64 c,.int .i64 d] 35)=w':=ZjY [a,b,c,d] w.heap.size _ (by simp) (fun j hj=>by rw[World.cell?_alloc_at _ _ _ _ rfl];match j,hj with|0,_=>rfl|1,_=>rfl|2,_=>rfl|3,_=>rfl)
end Go.Proofs
namespace Go.Proofs
open Go.RowKit
def At{α:Type} (sz:Nat)(cs:α->List Value)(w:World)(A:Option Addr)(l:List α):Prop:=∀k x,l[k]?=some x->∃b o,A=some ⟨b,o,none⟩/\b<w.heap.size/\∀j v,(cs x)[j]?=some v->w.cell? ⟨b,o+k*sz+j,none⟩=some v
theorem At.below{α:Type} {sz:Nat} {cs:α->List Value} {w w':World} {A:Option Addr} {l:List α} (h:At sz cs w A l)(hb:Below w.heap.size w w'):At sz cs w' A l:=by intro k x hx;obtain⟨b,o,hA,hlt,hc⟩:=h k x hx;exact⟨b,o,hA,ZwS hlt hb.size,fun j v hv=>(hb.cell (p:=⟨b,o+k*sz+j,none⟩) hlt).trans (hc j v hv)⟩
def eqS(a b:ByteArray):Bool:=a.toList==b.toList
variable {b:Nat} {o:Obj} {w:World} {cs:Array Value} {t:TypeId} {f:Nat×Nat} {v0 v1 v2 v3 v4:Value}
theorem Zw{W w1:World} (hb:Below W.heap.size W w1)(h:W.heap[b]?=some o):w1.heap[b]?=some o:=(hb.block b (lt_of_block h)).trans h
theorem Zy(h:w.heap[b]?=some o)(o':Obj):(w.alloc o').heap[b]?=some o:=(RowKit.Below.heap_alloc w o' b (lt_of_block h)).trans h
theorem ZB(h:w.heap[b]?=some o):w.drew.heap[b]?=some o:=h
theorem Zz(w:World)(o:Obj) {n:Nat} (hn:n=w.heap.size):(w.alloc o).heap[n]?=some o:=by subst hn;exact heap_alloc_new w o
theorem ZA(h:w.heap[b]?=some o) {p:Addr} (hne:b≠p.block)(u:Value):(w.setCell p u).heap[b]?=some o:=(ZuJ w p u b hne).trans h
theorem Za8(h:w.heap[b]?=some (.cells cs t f))(o:Nat):w.cell? ⟨b,o,none⟩=cs[o]?:=by simp[World.cell?,h]
theorem Za9(h:w.heap[b]?=some (.cells cs t (0,0)))(o:Nat):w.frozen? ⟨b,o,none⟩=false:=by simp[World.frozen?,h]
theorem ZH{o:Nat} {cs':Array Value} (h:w.heap[b]?=some (.cells cs t f))(u:Value)(hc:cs.setIfInBounds o u=cs'):(w.setCell ⟨b,o,none⟩ u).heap[b]?=some (.cells cs' t f):=by
 subst hc;have hlt:=lt_of_block h;have h':w.heap[b]=.cells cs t f:=by simpa [Zum hlt] using h
 show (w.heap.modify b _)[b]?=_;rw[Zum (by simpa using hlt),Array.getElem_modify_self,h'];rfl
theorem ZI(h:w.heap[b]?=some o):b<w.heap.size:=lt_of_block h
theorem bk1(h:w.heap[b]?=some (.cells #[v0] t (0,0))):w.cell? ⟨b,0,none⟩=some v0/\w.frozen? ⟨b,0,none⟩=false/\b<w.heap.size:=⟨Za8 h 0,Za9 h 0,ZI h⟩
theorem bk2(h:w.heap[b]?=some (.cells #[v0,v1] t (0,0))):w.cell? ⟨b,0,none⟩=some v0/\w.cell? ⟨b,1,none⟩=some v1/\w.frozen? ⟨b,0,none⟩=false/\w.frozen? ⟨b,1,none⟩=false/\b<w.heap.size:=⟨Za8 h 0,Za8 h 1,Za9 h 0,Za9 h 1,ZI h⟩
theorem bk3(h:w.heap[b]?=some (.cells #[v0,v1,v2] t (0,0))):w.cell? ⟨b,0,none⟩=some v0/\w.cell? ⟨b,1,none⟩=some v1/\w.cell? ⟨b,2,none⟩=some v2/\w.frozen? ⟨b,0,none⟩=false/\w.frozen? ⟨b,1,none⟩=false/\w.frozen? ⟨b,2,none⟩=false/\b<w.heap.size:=⟨Za8 h 0,Za8 h 1,Za8 h 2,Za9 h 0,Za9 h 1,Za9 h 2,ZI h⟩
theorem bk5(h:w.heap[b]?=some (.cells #[v0,v1,v2,v3,v4] t (0,0))):w.cell? ⟨b,0,none⟩=some v0/\w.cell? ⟨b,1,none⟩=some v1/\w.cell? ⟨b,2,none⟩=some v2/\w.cell? ⟨b,3,none⟩=some v3/\w.cell? ⟨b,4,none⟩=some v4/\w.frozen? ⟨b,0,none⟩=false/\w.frozen? ⟨b,1,none⟩=false/\w.frozen? ⟨b,2,none⟩=false/\w.frozen? ⟨b,3,none⟩=false/\w.frozen? ⟨b,4,none⟩=false/\b<w.heap.size:=⟨Za8 h 0,Za8 h 1,Za8 h 2,Za8 h 3,Za8 h 4,Za9 h 0,Za9 h 1,Za9 h 2,Za9 h 3,Za9 h 4,ZI h⟩
theorem bk7{v5 v6:Value} (h:w.heap[b]?=some (.cells #[v0,v1,v2,v3,v4,v5,v6] t (0,0))):w.cell? ⟨b,0,none⟩=some v0/\w.cell? ⟨b,1,none⟩=some v1/\w.cell? ⟨b,2,none⟩=some v2/\w.cell? ⟨b,3,none⟩=some v3/\w.cell? ⟨b,4,none⟩=some v4/\w.cell? ⟨b,5,none⟩=some v5/\w.cell? ⟨b,6,none⟩=some v6/\w.frozen? ⟨b,0,none⟩=false/\w.frozen? ⟨b,1,none⟩=false/\w.frozen? ⟨b,2,none⟩=false/\w.frozen? ⟨b,3,none⟩=false/\w.frozen? ⟨b,4,none⟩=false/\w.frozen? ⟨b,5,none⟩=false/\w.frozen? ⟨b,6,none⟩=false/\b<w.heap.size:=⟨Za8 h 0,Za8 h 1,Za8 h 2,Za8 h 3,Za8 h 4,Za8 h 5,Za8 h 6,Za9 h 0,Za9 h 1,Za9 h 2,Za9 h 3,Za9 h 4,Za9 h 5,Za9 h 6,ZI h⟩
theorem Zba{P:Program} {c:Code} {Q:Exit->Act->World->Prop} {a:Act} {w:World} (h:∀W,W=w->c.wp P Q a W):c.wp P Q a w:=h w rfl
variable {T:TypeId} {W:World} {B k:Nat} {l:List Int}
def ZaP(l:List Int):Array Value:=(l.map (Value.int .i64)).toArray
def ZO(T:TypeId)(W:World)(B:Nat)(l:List Int):Prop:=W.heap[B]?=some (.cells (ZaP l) T (0,0))
theorem ZjZ(l:List Int):(ZaP l).size=l.length:=by simp[ZaP]
theorem ZeX(l:List Int)(k:Nat):(ZaP l)[k]?=l[k]?.map (Value.int .i64):=by simp[ZaP]
theorem Zhn(l:List Int)(k:Nat)(x:Int):(ZaP l).setIfInBounds k (.int .i64 x)=ZaP (l.set k x):=by
 apply Zug;intro j;rw[ZeX,Zuv,List.getElem?_set];simp only[ZjZ,ZeX];by_cases h:k=j
 ·subst h;by_cases hk:k<l.length;·simp[hk]
  ·simp[hk]
 ·simp[h]
theorem ZO.load(h:ZO T W B l) {x:Int} (hx:l[k]?=some x):W.cell? ⟨B,k,none⟩=some (.int .i64 x):=by unfold ZO at h;unfold World.cell?;rw[h];simp[ZeX,hx]
theorem ZO.loadD(h:ZO T W B l)(hk:k<l.length):W.cell? ⟨B,k,none⟩=some (.int .i64 (l.getD k 0)):=by rw[ZvG,ZvL hk];exact h.load (ZvL hk)
theorem ZO.frozen(h:ZO T W B l)(k:Nat):W.frozen? ⟨B,k,none⟩=false:=by unfold ZO at h;unfold World.frozen?;rw[h];simp
theorem ZO.size(h:ZO T W B l):B<W.heap.size:=(Zuo.1 h).1
theorem ZO.store(h:ZO T W B l)(k:Nat)(x:Int):ZO T (W.setCell ⟨B,k,none⟩ (.int .i64 x)) B (l.set k x):=by have hlt:=h.size;unfold ZO at h |-;simp only[World.setCell];rw[Zur,if_pos rfl,h];simp[Zhn]
theorem ZO.other(h:ZO T W B l)(p:Addr)(v:Value)(hp:p.block≠B):ZO T (W.setCell p v) B l:=by unfold ZO at h |-;rw[<-h];exact ZuJ W p v B (fun e=>hp e.symm)
theorem ZO.alloc(h:ZO T W B l)(o:Obj):ZO T (W.alloc o) B l:=by have:=h.size;unfold ZO at h |-;exact(RowKit.Below.heap_alloc W o B this).trans h
theorem ZO.below{W':World} (h:ZO T W B l)(hb:Below W.heap.size W W'):ZO T W' B l:=by have:=h.size;unfold ZO at h |-;exact(hb.block B this).trans h
theorem ZO.new(W:World)(l:List Int):ZO T (W.alloc (.cells (ZaP l) T (0,0))) W.heap.size l:=Zz W _ rfl
theorem Zo8(n:Nat):madeCells #[.int .i64 0] n=ZaP (List.replicate n 0):=by
 apply Zug;intro j;rw[ZeX];by_cases hj:j<n;·simp[madeCells,hj,Nat.mod_one]
 ·simp[madeCells,hj]
end Go.Proofs
namespace Go.Proofs
def cmb:Nat->Nat->Nat->List (List Nat)|_,_,0=>[[]]|_,0,_+1=>[]|a,len+1,k+1=>(cmb (a+1) len k).map (a::·)++cmb (a+1) len (k+1)
def Zc2:Nat->List Nat->Option (List Nat)|_,[]=>none|m,x::t=>match Zc2 (m+1) t with|some t'=>some (x::t')|none=>if x=m then none else some (List.range' (x+1) (t.length+1))
theorem ZfV:∀(a len k:Nat),len<k->cmb a len k=[]|_,_,0,h=>by omega|_,0,_+1,_=>rfl|a,len+1,k+1,h=>by simp only[cmb];rw[ZfV (a+1) len k (by omega),ZfV (a+1) len (k+1) (by omega)];rfl
theorem Zho:∀(a len k:Nat),k<=len->(cmb a len k)[0]?=some (List.range' a k)|_,_,0,_=>by simp[cmb]|_,0,k+1,h=>by omega|a,len+1,k+1,h=>by have:=Zho (a+1) len k (by omega);simp only[cmb];rw[ZvH (by rw[Zv2];exact(ZvO.1 this).1),ZvP,this];rfl
theorem ZeY:∀(a len k:Nat),∀l∈cmb a len k,l.length=k
 |_,_,0,l,h=>by simp[cmb]at h;simp[h]|_,0,k+1,l,h=>by cases h|a,len+1,k+1,l,h=>by
  simp only[cmb,Zwf,Zwm]at h;rcases h with⟨t,ht,rfl⟩|h;·rw[Zv0,ZeY (a+1) len k t ht]
  ·exact ZeY (a+1) len (k+1) l h
theorem Zhp:∀(a len k m:Nat),m+k=a+len->∀i l,(cmb a len k)[i]?=some l->Zc2 m l=(cmb a len k)[i+1]?
 |a,len,0,m,_,i,l,h=>by simp only[cmb]at h |-;cases i with|zero=>simp at h;subst h;rfl|succ i=>simp at h
 |_,0,k+1,m,_,i,l,h=>by simp[cmb]at h|a,len+1,k+1,m,hm,i,l,h=>by
  have hl1:=ZeY (a+1) len k;simp only[cmb]at h |-;by_cases hi:i<(cmb (a+1) len k).length;·rw[ZvH (by rw[Zv2];exact hi),ZvP]at h;obtain⟨t,ht,rfl⟩:=Zxf.1 h;have ih:=Zhp (a+1) len k (m+1) (by omega) i t ht;have htl:t.length=k:=hl1 t (Zwn ht);unfold Zc2;rw[ih];cases hn:(cmb (a+1) len k)[i+1]? with
   |some t'=>rw[ZvH (by rw[Zv2];exact(ZvO.1 hn).1),ZvP,hn];rfl|none=>
    have hi2:=ZvN.1 hn;rw[ZvI (by rw[Zv2];exact hi2),Zv2,show i+1-(cmb (a+1) len k).length=0 by omega];by_cases ham:a=m;·rw[if_pos ham,ZfV (a+1) len (k+1) (by omega)];rfl
    ·have hk:k+1<=len:=by
      rcases ZwT len k with h1|h1;·rw[ZfV (a+1) len k h1]at hi;cases hi
      ·omega
     rw[if_neg ham,Zho (a+1) len (k+1) hk,htl]
  ·rw[ZvI (by rw[Zv2];omega),Zv2]at h;rw[ZvI (by rw[Zv2];omega),Zv2,show i+1-(cmb (a+1) len k).length=(i-(cmb (a+1) len k).length)+1 by omega];exact Zhp (a+1) len (k+1) m (by omega) _ l h
def Asc(a b:Nat):List Nat->Prop|[]=>True|x::t=>a<=x/\x<b/\Asc (x+1) b t
theorem Asc.mono{b:Nat}:∀{l:List Nat} {a a':Nat},a'<=a->Asc a b l->Asc a' b l|[],_,_,_,_=>trivial|_::_,_,_,h,hl=>⟨ZwP h hl.1,hl.2⟩
theorem Asc.lt{b:Nat}:∀{l:List Nat} {a:Nat},Asc a b l->∀x∈l,a<=x/\x<b
 |[],_,_,_,h=>by cases h|y::t,a,hl,x,h=>by
  rcases Zwi.1 h with rfl|h;·exact⟨hl.1,hl.2.1⟩
  ·have:=Asc.lt hl.2.2 x h;have:=hl.1;exact⟨by omega,by omega⟩
theorem ZeZ:∀(a len k:Nat),∀l∈cmb a len k,Asc a (a+len) l
 |_,_,0,l,h=>by simp[cmb]at h;subst h;trivial|_,0,k+1,l,h=>by cases h|a,len+1,k+1,l,h=>by
  simp only[cmb,Zwf,Zwm]at h;rcases h with⟨t,ht,rfl⟩|h;·have:=ZeZ (a+1) len k t ht;rw[show a+1+len=a+(len+1)by omega]at this;exact⟨ZwO _,by omega,this⟩
  ·have:=ZeZ (a+1) len (k+1) l h;rw[show a+1+len=a+(len+1)by omega]at this;exact this.mono (by omega)
theorem Zhq:∀(m:Nat)(l:List Nat),(∀i x,l[i]?=some x->x=m+i)->Zc2 m l=none|_,[],_=>rfl|m,x::t,h=>by unfold Zc2;rw[Zhq (m+1) t (fun i y hy=>by have:=h (i+1) y hy;omega)];exact if_pos (h 0 x rfl)
theorem Zj0:∀(m:Nat)(l:List Nat) (j x:Nat),l[j]?=some x->x≠m+j->(∀i y,j<i->l[i]?=some y->y=m+i)->Zc2 m l=some (l.take j++List.range' (x+1) (l.length-j))|_,[],j,x,h,_,_=>by simp at h|m,y::t,0,x,h,hx,hl=>by simp at h;subst h;unfold Zc2;rw[Zhq (m+1) t (fun i z hz=>by have:=hl (i+1) z (by omega) hz;omega)];simp only;rw[if_neg (by simpa using hx)];simp|m,y::t,j+1,x,h,hx,hl=>by unfold Zc2;rw[Zj0 (m+1) t j x (by simpa using h) (by omega) (fun i z hi hz=>by have:=hl (i+1) z (by omega) (by simpa using hz);omega)];simp
def pop:Nat->Nat->Nat|0,_=>0|k+1,s=>pop k s+(s>>>k)%2
def ZaD(f:Nat->Nat->Int)(M:List Int)(row set:Nat):Nat->Int->Int->Int|0,acc,_=>acc|c+1,acc,sg=>if (set>>>c)%2=0 then ZaD f M row set c acc sg else ZaD f M row set c (if M.getD (set-2^c) 0=0 then acc else acc+sg*f row c*M.getD (set-2^c) 0) (-sg)
def Zb2(f:Nat->Nat->Int)(n:Nat)(M:List Int)(set:Nat):Int:=ZaD f M (pop n set-1) set n 0 1
def dpM(f:Nat->Nat->Int)(n:Nat):Nat->List Int|0=>[1]|s+1=>dpM f n s++[Zb2 f n (dpM f n s) (s+1)]
def Z0(f:Nat->Nat->Int)(n:Nat):Int:=(dpM f n (2^n-1)).getD (2^n-1) 0
theorem ZcA(f:Nat->Nat->Int)(n:Nat):∀s,(dpM f n s).length=s+1|0=>rfl|s+1=>by simp[dpM,ZcA f n s]
theorem Zo9(m acc x:Int):(if m=0 then acc else acc+x*m)=acc+x*m:=by
 split;·rename_i h;rw[h];omega
 ·rfl
def minorD(f:Nat->Nat->Int)(M:List Int)(row set:Nat):Nat->Int->Int->Int|0,acc,_=>acc|c+1,acc,sg=>if (set>>>c)%2=0 then minorD f M row set c acc sg else minorD f M row set c (acc+sg*f row c*M.getD (set-2^c) 0) (-sg)
theorem Zhr(f:Nat->Nat->Int)(M:List Int)(row set:Nat):∀c acc sg,ZaD f M row set c acc sg=minorD f M row set c acc sg|0,_,_=>rfl|c+1,acc,sg=>by unfold ZaD minorD;rw[Zhr f M row set c,Zhr f M row set c,Zo9]
def dpN(f:Nat->Nat->Int)(n:Nat):Nat->List Int|0=>[1]|s+1=>dpN f n s++[minorD f (dpN f n s) (pop n (s+1)-1) (s+1) n 0 1]
theorem Zd8(f:Nat->Nat->Int)(n:Nat):∀s,dpM f n s=dpN f n s|0=>rfl|s+1=>by unfold dpM dpN Zb2;rw[Zd8 f n s,Zhr]
def d2(f:Nat->Nat->Int)(i j:Nat):Int:=f 0 i*f 1 j-f 0 j*f 1 i
def d3(f:Nat->Nat->Int)(i j k:Nat):Int:=f 2 k*d2 f i j-f 2 j*d2 f i k+f 2 i*d2 f j k
def d4(f:Nat->Nat->Int)(i j k l:Nat):Int:=f 3 l*d3 f i j k-f 3 k*d3 f i j l+f 3 j*d3 f i k l-f 3 i*d3 f j k l
def d5(f:Nat->Nat->Int)(i j k l m:Nat):Int:=f 4 m*d4 f i j k l-f 4 l*d4 f i j k m+f 4 k*d4 f i j l m-f 4 j*d4 f i k l m+f 4 i*d4 f j k l m
theorem Zpa(f:Nat->Nat->Int):Z0 f 1=f 0 0:=by simp[Z0,Zd8,dpN,minorD,pop]
theorem Zpb(f:Nat->Nat->Int):Z0 f 2=d2 f 0 1:=by simp[Z0,Zd8,dpN,minorD,pop,d2];grind
theorem Zpc(f:Nat->Nat->Int):Z0 f 3=d3 f 0 1 2:=by simp[Z0,Zd8,dpN,minorD,pop,d3,d2];grind
theorem Zpd(f:Nat->Nat->Int):Z0 f 4=d4 f 0 1 2 3:=by simp[Z0,Zd8,dpN,minorD,pop,d4,d3,d2];grind
theorem Zpe(f:Nat->Nat->Int):Z0 f 5=d5 f 0 1 2 3 4:=by simp[Z0,Zd8,dpN,minorD,pop,d5,d4,d3,d2];grind
def repl(f:Nat->Nat->Int)(b:Nat->Int)(c:Nat)(i j:Nat):Int:=if j=c then b i else f i j
theorem Zpf(f:Nat->Nat->Int)(b:Nat->Int):f 0 0*Z0 (repl f b 0) 1=b 0*Z0 f 1:=by simp[Zpa,repl];grind
theorem Zpg(f:Nat->Nat->Int)(b:Nat->Int)(i:Nat)(hi:i<2):f i 0*Z0 (repl f b 0) 2+f i 1*Z0 (repl f b 1) 2=b i*Z0 f 2:=by simp[Zpb,repl,d2];rcases i with _|_|i<;>first|grind|omega
theorem Zph(f:Nat->Nat->Int)(b:Nat->Int)(i:Nat)(hi:i<3):f i 0*Z0 (repl f b 0) 3+f i 1*Z0 (repl f b 1) 3+f i 2*Z0 (repl f b 2) 3=b i*Z0 f 3:=by simp[Zpc,repl,d3,d2];rcases i with _|_|_|i<;>first|grind|omega
theorem Zpi(f:Nat->Nat->Int)(b:Nat->Int)(i:Nat)(hi:i<4):f i 0*Z0 (repl f b 0) 4+f i 1*Z0 (repl f b 1) 4+f i 2*Z0 (repl f b 2) 4+f i 3*Z0 (repl f b 3) 4=b i*Z0 f 4:=by simp[Zpd,repl,d4,d3,d2];rcases i with _|_|_|_|i<;>first|grind|omega
theorem Zpj(f:Nat->Nat->Int)(b:Nat->Int)(i:Nat)(hi:i<5):f i 0*Z0 (repl f b 0) 5+f i 1*Z0 (repl f b 1) 5+f i 2*Z0 (repl f b 2) 5+f i 3*Z0 (repl f b 3) 5+f i 4*Z0 (repl f b 4) 5=b i*Z0 f 5:=by simp[Zpe,repl,d5,d4,d3,d2];rcases i with _|_|_|_|_|i<;>first|grind|omega
abbrev Ex:=List Int×Int
def entR(r:List (List Int))(i j:Nat):Int:=(r.getD i []).getD j 0
def Zcl(r:List (List Int))(inst:Option Nat)(i c:Nat):Int:=entR r i (if inst=some c then r.length else c)
def Zao(r:List (List Int))(inst:Option Nat):Int:=Z0 (Zcl r inst) r.length
def ZaZ(d:Int):Int:=if d<0 then -1 else 1
def Zb3(r:List (List Int)):Option (List Int×Int):=if Zao r none=0 then none else some ((List.range r.length).map fun i=>ZaZ (Zao r none)*Zao r (some i),ZaZ (Zao r none)*Zao r none)
def dotL:List Int->List Int->Int|a::x,b::y=>a*b+dotL x y|_,_=>0
def putsL:List Ex->List Int->Nat->Int|x::es,w::W,k=>w*x.1.getD k 0+putsL es W k|_,_,_=>0
def spentL:List Ex->List Int->Int|x::es,w::W=>w*x.2+spentL es W|_,_=>0
def gcdL(g:Nat):List Int->Nat|[]=>g|n::l=>gcdL (Nat.gcd g n.natAbs) l
def zerosL(np:Nat)(l:List Nat):List Nat:=l.filter (·<np)
def tightL(np:Nat)(l:List Nat):List Nat:=(l.filter (np<=·)).map (· - np)
def ZaE(n i:Nat):List Int:=(List.range n).map fun j=>if j=i then 1 else 0
def ZaQ(np:Nat)(es:List Ex)(z t:List Nat):List (List Int):=List.replicate (np+1) 1::(z.map (fun i=>ZaE (np+1) i)++t.map fun i=>(es.getD i default).1++[(es.getD i default).2])
def Zbe(np:Nat)(es:List Ex)(z t:List Nat):Option (List Int×Int):=match Zb3 (ZaQ np es z t)with|none=>none|some (l,den)=>if l.any (·<0)then none else if es.any (fun x=>!decide (dotL x.1 l<=x.2*den))then none else some (l.map (· / (gcdL 0 (den::l):Int)),den / (gcdL 0 (den::l):Int))
def ZbH(es:List Ex)(t:List Nat)(k:Nat)(w:Int):List Int:=1::(t.map (fun i=>-((es.getD i default).1.getD k 0))++[w])
def proofRows(es:List Ex)(z t:List Nat):Nat->List Int->List (List Int)|_,[]=>[]|k,w::ws=>if k∈z then proofRows es z t (k+1) ws else ZbH es t k w::proofRows es z t (k+1) ws
def putW(l:List Int):Nat->List Nat->List Int->List Int|_,[],W=>W|k,i::t,W=>putW l (k+1) t (W.set i (l.getD (k+1) 0))
def Zc3(es:List Ex)(den lev:Int)(W:List Int):Nat->List Int->Bool|_,[]=>true|k,w::ws=>decide (lev<=w*den+putsL es W k)&&Zc3 es den lev W (k+1) ws
structure Prf where
 den:Int
 lev:Int
 W:List Int deriving Inhabited
def Zb4(es:List Ex)(ws:List Int)(z t:List Nat):Option Prf:=match Zb3 (proofRows es z t 0 ws)with|none=>none|some (l,den)=>if (List.range t.length).any (fun k=>l.getD (k+1) 0<0)then none else let W:=putW l 0 t (List.replicate es.length 0);if Zc3 es den (l.getD 0 0) W 0 ws then let g:Int:=(gcdL 0 (den::l.getD 0 0::W):Int);some {den:=den / g,lev:=l.getD 0 0 / g,W:=W.map (· / g)} else none
def Zcc(np:Nat)(es:List Ex)(ws:List Int)(l:List Nat):Option (List Int×Int×Prf):=match Zb4 es ws (zerosL np l) (tightL np l)with|none=>none|some p=>match Zbe np es (zerosL np l) (tightL np l)with|none=>none|some (m,d)=>some (m,d,p)
def solvedL(np:Nat) (es:List Ex) (ws:List Int):Option (List Int×Int×Prf):=(cmb 0 (np+es.length) (np-1)).findSome? (Zcc np es ws)
theorem Zpk(f:Nat->Nat->Int)(b:Nat->Int)(n:Nat)(hn:n<=5)(i:Nat)(hi:i<n):((List.range n).map fun c=>f i c*Z0 (repl f b c) n).sum=b i*Z0 f n:=by
 rcases n with _|_|_|_|_|_|n;·omega
 ·obtain rfl:i=0:=by omega
  simpa using Zpf f b
 ·simpa [Zwu] using Zpg f b i hi
 ·simpa [Zwu,Int.add_assoc] using Zph f b i hi
 ·simpa [Zwu,Int.add_assoc] using Zpi f b i hi
 ·simpa [Zwu,Int.add_assoc] using Zpj f b i hi
 ·omega
theorem Zpl(r:List (List Int)) (c:Nat):Zcl r (some c)=repl (Zcl r none) (fun i=>entR r i r.length) c:=by
 funext i j;unfold Zcl repl;by_cases h:j=c;·subst h;simp
 ·have:¬(c=j):=fun e=>h e.symm;simp[this,h]
theorem Zj1(row:List Int)(g:Nat->Int):∀(n:Nat)(row:List Int)(g:Nat->Int),n<=row.length->dotL row ((List.range n).map g)=((List.range n).map fun c=>row.getD c 0*g c).sum|0,row,g,_=>by cases row<;>simp[dotL]|n+1,[],g,h=>by simp at h|n+1,x::row,g,h=>by rw[List.range_succ_eq_map];simp only[Zwa,Zwb,dotL,Zwz,List.getD_cons_zero];have:=Zj1 row g n row (g ∘ Nat.succ) (by simpa using h);rw[show g ∘ Nat.succ=g ∘ Nat.succ from rfl]at this;rw[this];rfl
theorem Zpm{r:List (List Int)} {l:List Int} {den:Int} (h:Zb3 r=some (l,den))(hn:r.length<=5)(hr:∀row∈r,row.length=r.length+1):0<den/\l.length=r.length/\∀row∈r,dotL row l=row.getD r.length 0*den:=by
 unfold Zb3 at h;split at h;·cases h
 rename_i hd;obtain⟨rfl,rfl⟩:_/\_:=by simpa using h
 refine⟨?_,by simp,fun row hrow=>?_⟩;·unfold ZaZ;split<;>omega
 ·obtain⟨i,hi,rfl⟩:=List.getElem_of_mem hrow;have hc:=Zpk (Zcl r none) (fun i=>entR r i r.length) r.length hn i hi;rw[Zj1 [] (fun _=>0) _ _ _ (by rw[hr _ hrow];omega)];have e1:∀c,(Zcl r none i c)=r[i].getD c 0:=fun c=>by simp[Zcl,entR,ZvG,ZvL hi]
  have e2:entR r i r.length=r[i].getD r.length 0:=by simp[entR,ZvG,ZvL hi]
  have e3:∀c,Z0 (repl (Zcl r none) (fun i=>entR r i r.length) c) r.length=Zao r (some c):=fun c=>by unfold Zao;rw[Zpl]
  simp only[e1,e2,e3]at hc;have:((List.range r.length).map fun c=>r[i].getD c 0*(ZaZ (Zao r none)*Zao r (some c))).sum=ZaZ (Zao r none)*((List.range r.length).map fun c=>r[i].getD c 0*Zao r (some c)).sum:=by generalize List.range r.length=L;induction L with
   |nil=>simp|cons x L ih=>simp only[Zwa,Zwz,ih];grind
  rw[this,hc];show ZaZ _*(_*Zao r none)=_;grind
end Go.Proofs
namespace Go.Proofs
open Tryz
open Go.RowKit
variable {w:World} {A:Option Addr}
def Zc(x:Int):List Value:=[.int .i64 x]
structure IR where
 A:Option Addr
 c:Nat
 l:List Int
def IR.cs(x:IR):List Value:=[.slice x.A x.l.length x.c]
def Zcm(w:World)(A:Option Addr)(xs:List IR):Prop:=At 1 IR.cs w A xs/\∀x∈xs,At 1 Zc w x.A x.l
theorem Zcm.below{w':World} {xs:List IR} (h:Zcm w A xs)(hb:Below w.heap.size w w'):Zcm w' A xs:=⟨h.1.below hb,fun x hx=>(h.2 x hx).below hb⟩
def Zcd(r:List (List Int))(q:Int)(i c:Nat):Int:=entR r i (if (c:Int)=q then r.length else c)
theorem Zcm.cell{xs:List IR} (h:Zcm w A xs) {i j:Nat} {x:IR} (hx:xs[i]?=some x)(hj:j<x.l.length):∃b o b2 o2,A=some ⟨b,o,none⟩/\x.A=some ⟨b2,o2,none⟩/\w.cell? ⟨b,o+i,none⟩=some (.slice (some ⟨b2,o2,none⟩) x.l.length x.c)/\w.cell? ⟨b2,o2+j,none⟩=some (.int .i64 (x.l.getD j 0))/\entR (xs.map IR.l) i j=x.l.getD j 0:=by
 obtain⟨b,o,hA,-,hc⟩:=h.1 i x hx;obtain⟨b2,o2,hA2,-,hc2⟩:=h.2 x (Zwn hx) j _ (ZvL hj);refine⟨b,o,b2,o2,hA,hA2,?_,?_,?_⟩;·have:=hc 0 _ rfl;rw[hA2]at this;simpa using this
 ·have:=hc2 0 _ rfl;rw[ZvG,ZvL hj];simpa using this
 ·simp[entR,ZvG,hx]
theorem Zpn(A:Option Addr)(xs:List IR)(c n:Nat)(q:Int)(K N R row col:Nat)(w:World)(hK:w.heap[K]?=some (.cells #[.int .i64 q] 3 (0,0)))(hN:w.heap[N]?=some (.cells #[.int .i64 n] 3 (0,0)))(hR:w.heap[R]?=some (.cells #[.slice A n c] 160 (0,0)))(hrows:Zcm w A xs)(hn:xs.length=n)(hl:∀x∈xs,x.l.length=n+1)(hrow:row<n)(hcol:col<n):Calls prog 124 #[.int .i64 row,.int .i64 col,.pointer (some ⟨K,0,none⟩),.pointer (some ⟨N,0,none⟩),.pointer (some ⟨R,0,none⟩)] w fun e w'=>e=.returned (.int .i64 (Zcd (xs.map IR.l) q row col))/\w=w':=by
 obtain⟨x,hx⟩:∃x,xs[row]?=some x:=⟨_,ZvL (by omega)⟩;have hxl:=hl x (Zwn hx);have hlen:(xs.map IR.l).length=n:=by simpa using hn
 have CK:=bk1 hK;have CN:=bk1 hN;have CR:=bk1 hR;have hrI:(row:Int)<(n:Int):=by omega
 by_cases hq:(col:Int)=q
 ·obtain⟨b,o,b2,o2,rfl,hA2,c1,c2,he⟩:=hrows.cell hx (j:=n) (by omega);have hv:Zcd (xs.map IR.l) q row col=x.l.getD n 0:=by unfold Zcd;rw[if_pos hq,hlen,he]
  rw[hv];rw[hxl]at c1;have hqb:((col:Int)==q)=true:=by simp[hq]
  have hnI:(n:Int)<((n+1:Nat):Int):=by omega
  generalize x.l.getD n 0=v at*;clear hq hv he hx hxl hl hn hrows hlen hK hN hR hA2;go_enter func124,ntmps124;go_wp2;go_ret;exact⟨rfl,rfl⟩
 ·obtain⟨b,o,b2,o2,rfl,hA2,c1,c2,he⟩:=hrows.cell hx (j:=col) (by omega);have hv:Zcd (xs.map IR.l) q row col=x.l.getD col 0:=by unfold Zcd;rw[if_neg hq,he]
  rw[hv];rw[hxl]at c1;have hqb:((col:Int)==q)=false:=by simp[hq]
  have hnI:(col:Int)<((n+1:Nat):Int):=by omega
  generalize x.l.getD col 0=v at*;clear hq hv he hx hxl hl hn hrows hlen hK hN hR hA2;go_enter func124,ntmps124;go_wp2;go_ret;exact⟨rfl,rfl⟩
end Go.Proofs
namespace Go.Proofs
variable {l:List Int}
def wsum:List Int->(Nat->Int)->Int|[],_=>0|x::m,f=>x*f 0+wsum m fun k=>f (k+1)
theorem Zpo(m:List Int)(c:Int):wsum m (fun _=>c)=c*m.sum:=by induction m with|nil=>simp[wsum]|cons x m ih=>simp only[wsum,Zwz];rw[ih];grind
theorem Zpp(m:List Int):wsum m (fun _=>0)=0:=by rw[Zpo];simp
theorem Zpq{m:List Int} {f g:Nat->Int} (h:∀k x,m[k]?=some x->x≠0->f k=g k):wsum m f=wsum m g:=by induction m generalizing f g with
 |nil=>rfl|cons x m ih=>
  simp only[wsum];rw[ih (f:=fun k=>f (k+1)) (g:=fun k=>g (k+1)) fun k y hy=>h (k+1) y (by simpa using hy)];by_cases hx:x=0;·rw[hx];simp
  ·rw[h 0 x rfl hx]
theorem Zj2:∀(a m:List Int),m.length<=a.length->dotL a m=wsum m fun k=>a.getD k 0|[],[],_=>rfl|_::_,[],_=>by simp[dotL,wsum]|[],_::_,h=>by simp at h|a::ar,x::m,h=>by simp only[dotL,wsum,List.getD_cons_zero,ZvE];rw[Zj2 ar m (by simpa using h)];grind
theorem Zpr(a b m:List Int)(h:m.length=a.length):dotL (a++b) m=dotL a m:=by induction a generalizing m with|nil=>have:m=[]:=Zvw (by simpa using h);subst this;cases b<;>simp[dotL]|cons x a ih=>cases m with|nil=>simp at h|cons y m=>simp only[Zvm,dotL];rw[ih m (by simpa using h)]
theorem Zhs(g:Int):∀(a m:List Int),dotL a (m.map (g*·))=g*dotL a m|[],_=>by simp[dotL]|_::_,[]=>by simp[dotL]|a::ar,x::m=>by simp only[Zwa,dotL];rw[Zhs g ar m];grind
theorem Zbo{a b:Int} {A B:Nat} (ha:a.natAbs<=A)(hb:b.natAbs<=B):(a*b).natAbs<=A*B:=by rw[Int.natAbs_mul];exact ZwY ha hb
theorem ZdA:∀(l:List Int)(g:Nat),gcdL g l∣g/\∀x∈l,(gcdL g l:Int)∣x
 |[],g=>⟨Nat.dvd_refl _,fun x hx=>by cases hx⟩|n::l,g=>by
  obtain⟨h1,h2⟩:=ZdA l (Nat.gcd g n.natAbs);simp only[gcdL];refine⟨Nat.dvd_trans h1 (Nat.gcd_dvd_left _ _),fun x hx=>?_⟩;rcases Zwi.1 hx with rfl|hx;·exact Int.ofNat_dvd_left.2 (Nat.dvd_trans h1 (Nat.gcd_dvd_right _ _))
  ·exact h2 x hx
theorem Ze0{g:Nat} (x:Int)(hx:x∈l)(h0:x≠0):0<gcdL g l:=by
 rcases Nat.eq_zero_or_pos (gcdL g l)with h|h;·have:=(ZdA l g).2 x hx;rw[h]at this;exact absurd (Int.zero_dvd.1 this) h0
 ·exact h
theorem Zps{g:Int} (hg:0<g)(h:∀x∈l,g∣x):(l.map (· / g)).map (g*·)=l:=by
 rw[Zwb];conv=>rhs;rw[<-List.map_id l]
 apply List.map_congr_left;intro x hx;simp only[Function.comp_apply,id_eq];exact Int.mul_ediv_cancel' (h x hx)
end Go.Proofs
namespace Go.Proofs
open Go.RowKit
variable {w:World} {A:Option Addr} {l:List Int} {K:Nat}
structure Pa where
 nm:ByteArray
 a0:Int
 a1:Int
 c0:Int
 c1:Int
def Pa.cs(p:Pa):List Value:=[.string p.nm,.int .i64 p.a0,.int .i64 p.a1,.int .i64 p.c0,.int .i64 p.c1]
structure En where
 nm:ByteArray
 A:Option Addr
 c:Nat
 co:List Int
 mo:Int
def En.cs(x:En):List Value:=[.string x.nm,.slice x.A x.co.length x.c,.int .i64 x.mo]
def En.ex(x:En):Ex:=(x.co,x.mo)
def Zaw(w:World)(A:Option Addr)(es:List En):Prop:=At 3 En.cs w A es/\∀x∈es,At 1 Zc w x.A x.co
theorem Zaw.below{w':World} {es:List En} (h:Zaw w A es)(hb:Below w.heap.size w w'):Zaw w' A es:=⟨h.1.below hb,fun x hx=>(h.2 x hx).below hb⟩
theorem ZaF(h:At 1 Zc w A l) {k:Nat} (hk:k<l.length):∃b o,A=some ⟨b,o,none⟩/\b<w.heap.size/\w.cell? ⟨b,o+k,none⟩=some (.int .i64 (l.getD k 0)):=by obtain⟨b,o,hA,hlt,hc⟩:=h k _ (ZvL hk);refine⟨b,o,hA,hlt,?_⟩;have:=hc 0 _ rfl;rw[ZvG,ZvL hk];simpa using this
def Small(K:Nat)(l:List Int):Prop:=∀x∈l,x.natAbs<=K
theorem Small.get(h:Small K l)(k:Nat):(l.getD k 0).natAbs<=K:=by rw[ZvG];cases hk:l[k]? with|none=>exact Zxa _|some x=>exact h x (Zwn hk)
theorem Small.mono{K':Nat} (h:Small K l)(hK:K<=K'):Small K' l:=fun x hx=>ZwP (h x hx) hK
theorem Zht:∀(a b:List Int) (k:Nat),k<a.length->k<b.length->dotL (a.take (k+1)) (b.take (k+1))=dotL (a.take k) (b.take k)+a.getD k 0*b.getD k 0|[],_,_,h,_=>by simp at h|_::_,[],_,_,h=>by simp at h|x::a,y::b,0,_,_=>by cases a<;>cases b<;>simp[dotL]|x::a,y::b,k+1,h,h'=>by simp only[ZwD,dotL,ZvE];have:=Zht a b k (by simpa using h) (by simpa using h');rw[this];omega
theorem Ze1{X Y:Nat}:∀(a b:List Int) (k:Nat),Small X a->Small Y b->(dotL (a.take k) (b.take k)).natAbs<=k*(X*Y)|[],b,k,_,_=>by simp[dotL]|_::_,[],k,_,_=>by simp[dotL]|_::_,_::_,0,_,_=>by simp[dotL]|x::a,y::b,k+1,ha,hb=>by simp only[ZwD,dotL];have h1:=Zbo (ha x (by simp)) (hb y (by simp));have h2:=Ze1 a b k (fun z hz=>ha z (by simp[hz])) fun z hz=>hb z (by simp[hz]);rw[ZwI];omega
theorem Zj3(a b:List Int) (h:a.length=b.length):dotL (a.take a.length) (b.take a.length)=dotL a b:=by rw[ZwB,h,ZwB]
theorem Zj4(c:Nat):∀(es:List Ex) (W:List Int) (k:Nat),k<es.length->k<W.length->putsL (es.take (k+1)) (W.take (k+1)) c=putsL (es.take k) (W.take k) c+W.getD k 0*(es.getD k default).1.getD c 0|[],_,_,h,_=>by simp at h|_::_,[],_,_,h=>by simp at h|x::a,y::b,0,_,_=>by cases a<;>cases b<;>simp[putsL]|x::a,y::b,k+1,h,h'=>by simp only[ZwD,putsL,ZvE];have:=Zj4 c a b k (by simpa using h) (by simpa using h');rw[this];omega
theorem ZfW{X Y:Nat} (c:Nat):∀(es:List Ex) (W:List Int) (k:Nat),(∀x∈es,Small X x.1)->Small Y W->(putsL (es.take k) (W.take k) c).natAbs<=k*(Y*X)|[],b,k,_,_=>by simp[putsL]|_::_,[],k,_,_=>by simp[putsL]|_::_,_::_,0,_,_=>by simp[putsL]|x::a,y::b,k+1,ha,hb=>by simp only[ZwD,putsL];have h1:=Zbo (hb y (by simp)) ((ha x (by simp)).get c);have h2:=ZfW c a b k (fun z hz=>ha z (by simp[hz])) fun z hz=>hb z (by simp[hz]);rw[ZwI];omega
theorem Zj5:∀(es:List Ex) (W:List Int) (k:Nat),k<es.length->k<W.length->spentL (es.take (k+1)) (W.take (k+1))=spentL (es.take k) (W.take k)+W.getD k 0*(es.getD k default).2|[],_,_,h,_=>by simp at h|_::_,[],_,_,h=>by simp at h|x::a,y::b,0,_,_=>by cases a<;>cases b<;>simp[spentL]|x::a,y::b,k+1,h,h'=>by simp only[ZwD,spentL,ZvE];have:=Zj5 a b k (by simpa using h) (by simpa using h');rw[this];omega
theorem Ze2{X Y:Nat}:∀(es:List Ex) (W:List Int) (k:Nat),(∀x∈es,x.2.natAbs<=X)->Small Y W->(spentL (es.take k) (W.take k)).natAbs<=k*(Y*X)|[],b,k,_,_=>by simp[spentL]|_::_,[],k,_,_=>by simp[spentL]|_::_,_::_,0,_,_=>by simp[spentL]|x::a,y::b,k+1,ha,hb=>by simp only[ZwD,spentL];have h1:=Zbo (hb y (by simp)) (ha x (by simp));have h2:=Ze2 a b k (fun z hz=>ha z (by simp[hz])) fun z hz=>hb z (by simp[hz]);rw[ZwI];omega
end Go.Proofs
namespace Go.Proofs
open Tryz
open Go.RowKit
theorem Zc4{K x k n:Nat} (h:x<=k*K)(hk:k<=n):x<=n*K:=ZwP h (ZwZ _ hk)
theorem ZfX(A B:Option Addr)(a b:List Int)(ca cb:Nat)(w:World)(hA:At 1 Zc w A a)(hB:At 1 Zc w B b)(hl:a.length=b.length)(h8:a.length<=8)(X Y:Nat)(hXY:8*(X*Y)<=9000000000000000000)(sa:Small X a)(sb:Small Y b):Calls prog 64 #[.slice A a.length ca,.slice B b.length cb] w fun e w'=>e=.returned (.int .i64 (dotL a b))/\w=w':=by
 have hall:=Zvc (Zj3 a b hl);have htake:=Zvc fun k hk=>Zht a b k hk (by rw[<-hl];exact hk);have hbd:=Zvc fun k=>Ze1 (X:=X) (Y:=Y) a b k sa sb;have gA:=Zvc fun k (hk:k<a.length)=>ZaF hA hk;have gB:=Zvc fun k (hk:k<a.length)=>ZaF (w:=w) hB (k:=k) (by rw[<-hl];exact hk);have ga:=Zvc sa.get;have hXY:=Zvc hXY;have gb:=Zvc sb.get;obtain⟨N,hN⟩:∃N,a.length=N:=⟨_,rfl⟩;rw[hN]at hall htake h8 gA gB |-;rw[<-hl,hN];clear hA hB hl hN sa sb;obtain⟨S,hS⟩:∃S:Nat->Int,(fun k=>dotL (a.take k) (b.take k))=S:=⟨_,rfl⟩;have hSk:∀k,dotL (a.take k) (b.take k)=S k:=fun k=>by rw[<-hS]
 have hS0:S 0=0:=by rw[<-hS];cases a<;>cases b<;>simp[dotL]
 simp only[hSk]at hall htake hbd;obtain⟨R,hR⟩:∃R,dotL a b=R:=⟨_,rfl⟩;rw[hR]at hall |-;clear hS hSk hR;have hall':=hall;go_enter func64,ntmps64;go_wp2;go_loopw [5,10] (fun s i wr=>∃k:Nat,k<=N/\i=.int .i64 k/\s=.int .i64 (S k)/\w=wr)(fun _ i _=>N-(intOf i).toNat);case atStart=>exact⟨0,Zxa _,rfl,by rw[hS0],rfl⟩
 case round=>
  obtain⟨k,hk,rfl,rfl,rfl⟩:=hrel;by_cases hlt:k<N
  ·have hkI:(k:Int)<(N:Int):=by omega
   obtain⟨b1,o1,hA1,-,c1⟩:=gA.out k hlt;obtain⟨b2,o2,hB1,-,c2⟩:=gB.out k hlt;subst hA1;subst hB1;have ht:=htake.out k hlt;have hm:=Zbo (ga.out k) (gb.out k);have hb1:=Zc4 (hbd.out k) hk;have hb2:=Zc4 (hbd.out (k+1)) hlt;obtain⟨x,hx⟩:∃x,a.getD k 0=x:=⟨_,rfl⟩;obtain⟨y,hy⟩:∃y,b.getD k 0=y:=⟨_,rfl⟩;rw[hx]at c1 ht hm;rw[hy]at c2 ht hm;obtain⟨z,hz⟩:∃z,x*y=z:=⟨_,rfl⟩;rw[hz]at ht hm;have h9:=ZwZ (X*Y) h8;have h10:=hXY.out;obtain⟨XY,hxy⟩:∃XY,X*Y=XY:=⟨_,rfl⟩;rw[hxy]at hm hb1 hb2 h9 h10;have hw1:IntKind.i64.wrap (x*y)=z:=by rw[hz];exact Zva _ (by omega)
   have hw2:IntKind.i64.wrap (S k+z)=S (k+1):=by rw[<-ht];exact Zva _ (by omega)
   clear hz ht hm hb1 hb2 hx hy h9 h10 hxy;go_wp2;go_roundw;case rel=>exact⟨k+1,by omega,by go_num,rfl,by trivial⟩
   case measure=>simp[intOf]<;>omega
  ·obtain rfl:k=N:=by omega
   have e:S k=R:=hall.out;clear hlt;go_wp2;go_ret;exact⟨Zbn e,rfl⟩
theorem Zpt(l:List Int):∀(k g:Nat),k<l.length->gcdL g (l.take (k+1))=Nat.gcd (gcdL g (l.take k)) (l.getD k 0).natAbs:=by induction l with|nil=>intro k g h;simp at h|cons x l ih=>intro k g h;cases k with|zero=>simp[gcdL]|succ k=>simp only[ZwD,gcdL,ZvE];exact ih k _ (by simpa using h)
theorem Zj6{g n:Int} (hn:n≠0):Nat.gcd n.natAbs (g.tmod n).natAbs=Nat.gcd g.natAbs n.natAbs/\(g.tmod n).natAbs<n.natAbs:=by rw[Int.natAbs_tmod];refine⟨?_,Nat.mod_lt _ (by omega)⟩;rw[Nat.gcd_comm,<-Nat.gcd_rec,Nat.gcd_comm]
theorem Zhu(A:Option Addr)(l:List Int)(c:Nat)(w:World)(hA:At 1 Zc w A l)(h8:l.length<=1000)(sl:Small 1000000000000000000 l):Calls prog 80 #[.slice A l.length c] w fun e w'=>e=.returned (.int .i64 (gcdL 0 l:Nat))/\Below w.heap.size w w':=by
 have htake:=Zvc fun k hk=>Zpt l k 0 hk;have gA:=Zvc fun W' (hb:Below w.heap.size w W') k (hk:k<l.length)=>ZaF (hA.below hb) hk;have ga:=Zvc sl.get;have hall:Hid (gcdL 0 (l.take l.length)=gcdL 0 l):=by rw[ZwB];exact rfl
 obtain⟨N,hN⟩:∃N,l.length=N:=⟨_,rfl⟩;rw[hN]at htake h8 gA hall |-;obtain⟨S,hS⟩:∃S:Nat->Nat,(fun k=>gcdL 0 (l.take k))=S:=⟨_,rfl⟩;have hSk:∀k,gcdL 0 (l.take k)=S k:=fun k=>by rw[<-hS]
 have hS0:S 0=0:=by rw[<-hS];simp[gcdL]
 simp only[hSk]at htake hall;obtain⟨R,hR⟩:∃R,gcdL 0 l=R:=⟨_,rfl⟩;rw[hR]at hall |-;clear hA hN sl hS hSk hR;go_enter func80,ntmps80;go_wp2;go_loopw [3,8] (fun s i wr=>∃(k:Nat)(g:Int),k<=N/\i=.int .i64 k/\s=.int .i64 g/\Hid (g.natAbs=S k)/\Hid (g.natAbs<=1000000000000000000)/\Below w.heap.size w wr)(fun _ i _=>N-(intOf i).toNat);case atStart=>exact⟨0,0,Zxa _,rfl,rfl,by show (0:Int).natAbs=_;rw[hS0];rfl,by show (0:Int).natAbs<=_;omega,by go_grown⟩
 case round=>
  obtain⟨k,g0,hk,rfl,rfl,hg0,hgb0,hbw⟩:=hrel;by_cases hlt:k<N
  ·have hkI:(k:Int)<(N:Int):=by omega
   obtain⟨b1,o1,hA1,hs1,c1⟩:=gA.out wr hbw k hlt;subst hA1;have ht:=Zvc (htake.out k hlt);have hx0:=Zvc (ga.out k);obtain⟨x,hx⟩:∃x,l.getD k 0=x:=⟨_,rfl⟩;rw[hx]at c1 ht hx0;clear hx;go_wp2;go_loopw [3,5] (fun s j wr=>∃g n:Int,s=.int .i64 g/\j=.int .i64 n/\Hid (Nat.gcd g.natAbs n.natAbs=S (k+1))/\Hid (g.natAbs<=1000000000000000000/\n.natAbs<=1000000000000000000)/\Below w.heap.size w wr)(fun _ j _=>(intOf j).natAbs);case atStart=>exact⟨g0,x,rfl,rfl,by show Nat.gcd _ _=_;rw[ht.out,hg0.out],⟨hgb0.out,hx0.out⟩,by first|assumption|go_grown⟩
   case round=>
    clear hbw c1;obtain⟨g,n,rfl,rfl,hg,hgb,hbw⟩:=hrel;by_cases hn:n=0
    ·subst hn;have hg2:=Zvc (show g.natAbs=S (k+1)from by have:=hg.out;simpa using this);go_wp2;go_roundw;case rel=>exact⟨k+1,g,by omega,by go_num,rfl,hg2.out,hgb.out.1,hbw⟩
     case measure=>simp[intOf]<;>omega
    ·have hnz : (n != 0) = true := by simpa using hn
     obtain⟨s1,s2⟩:=Zj6 (g:=g) hn;have hg2:=Zvc (s1.trans hg.out);have hgb2:=Zvc (show n.natAbs<=1000000000000000000/\(g.tmod n).natAbs<=1000000000000000000 from⟨hgb.out.2,by have:=hgb.out.2;omega⟩);have hm2:=Zvc s2;clear s1 s2;go_wp2;refine ZbA w (by kernel_rfl) (by kernel_rfl) (by go_grown) ?_;intro hgc hbx;repeat (go_big_quiet_step (fail))
     refine wpQuiet_nil ?_;intro wb hb_wb hw_wb hs_wb;clear hgc hbx;go_wp2;go_roundw;case rel=>exact⟨n,g.tmod n,rfl,rfl,hg2.out,hgb2.out,by first|assumption|go_grown⟩
     case measure=>have:=hm2.out;simp only[intOf];exact this
  ·obtain rfl:k=N:=by omega
   have hgR:g0.natAbs=R:=hg0.out.trans hall.out;have hgb:=hgb0.out;clear hlt;go_wp2;all_goals go_ret
   all_goals exact⟨Zbn (by omega),hbw⟩
def pcn:Nat->Nat->Nat|0,_=>0|f+1,n=>n%2+pcn f (n / 2)
def o1(x:Int):Int:=IntKind.u64.wrap (bits .and .u64 (x / 2) 6148914691236517205+bits .and .u64 x 6148914691236517205)
def o2(x:Int):Int:=IntKind.u64.wrap (bits .and .u64 (x / 4) 3689348814741910323+bits .and .u64 x 3689348814741910323)
def o3(x:Int):Int:=bits .and .u64 (IntKind.u64.wrap (x / 16+x)) 1085102592571150095
def o4(x:Int):Int:=IntKind.u64.wrap (x+x / 256)
def o5(x:Int):Int:=IntKind.u64.wrap (x+x / 65536)
def o6(x:Int):Int:=IntKind.u64.wrap (x+x / 4294967296)
def Zpu(x:Int):Int:=bits .and .i64 (wrap64 (o6 (o5 (o4 (o3 (o2 (o1 x))))))) 127
theorem Zpv:∀n∈List.range 256,Zpu (n:Int)=((pcn 8 n:Nat):Int):=by decide+kernel
theorem Zpw(n:Nat)(hn:n<256)(w:World):Calls prog 139 #[.int .u64 n] w fun e w'=>e=.returned (.int .i64 (pcn 8 n))/\w=w':=by have h:=Zvc (Zpv n (Zwo.2 hn));go_enter func139,ntmps139;go_wp2;go_ret;exact⟨Zbn h.out,rfl⟩
theorem Zpx(n:Nat)(hn:n<256)(w:World):Calls prog 125 #[.int .u64 n] w fun e w'=>e=.returned (.int .i64 (pcn 8 n))/\w=w':=by go_enter func125,ntmps125;go_wp2_with (go_at_call 139;refine(Zpw n hn _).mono ?_;rintro e w' ⟨rfl,rfl⟩);go_ret;exact⟨rfl,rfl⟩
end Go.Proofs
namespace Go.Proofs
variable {l:List Int} {x:Int} {k:Nat}
theorem Zhv:∀n∈List.range 6,∀s∈List.range (2^n),∀c∈List.range n,(s>>>c)%2=1->pop n (s-2^c)+1=pop n s/\2^c<=s:=by decide+kernel
theorem Ze3:∀n∈List.range 6,∀s∈List.range (2^n),pop n s<=n:=by decide+kernel
theorem Zj7:∀n∈List.range 6,∀s∈List.range (2^n),s≠0->1<=pop n s:=by decide+kernel
theorem Zhw{f:Nat->Nat->Int} {M:List Int} {row set Z:Nat}:∀(c:Nat)(acc sg:Int),(sg=1∨sg=-1)->(∀j,j<c->(f row j).natAbs<=400)->(∀j,j<c->(set>>>j)%2=1->(M.getD (set-2^j) 0).natAbs<=Z)->(ZaD f M row set c acc sg).natAbs<=acc.natAbs+c*(400*Z)
 |0,acc,_,_,_,_=>by unfold ZaD;omega|c+1,acc,sg,hs,hf,hM=>by
  unfold ZaD;have hsg:(-sg=1∨-sg=-1):=by omega
  split;·have:=Zhw c acc sg hs (fun j hj=>hf j (by omega)) fun j hj=>hM j (by omega);rw[ZwI];omega
  ·rename_i hb;have hb1:(set>>>c)%2=1:=by omega
   have hfm:=Zbo (hf c (by omega)) (hM c (by omega) hb1);have h1:∀acc',acc'.natAbs<=acc.natAbs+400*Z->(ZaD f M row set c acc' (-sg)).natAbs<=acc.natAbs+(c+1)*(400*Z):=fun acc' ha=>by have:=Zhw c acc' (-sg) hsg (fun j hj=>hf j (by omega)) fun j hj=>hM j (by omega);rw[ZwI];omega
   refine h1 _ ?_;split;·omega
   ·rw[Int.mul_assoc];rcases hs with rfl|rfl<;>omega
theorem Zj8(h:k<l.length):(l++[x]).getD k 0=l.getD k 0:=by rw[ZvG,ZvH h,<-ZvG]
theorem Zhx(h:k=l.length):(l++[x]).getD k 0=x:=by subst h;simp[ZvG]
def ZdB(f:Nat->Nat->Int)(n:Nat):Prop:=∀i j,i<n->j<n->(f i j).natAbs<=400
theorem Zhy{f:Nat->Nat->Int} {n:Nat} (hn:n<=5)(hf:ZdB f n):∀s,s<2^n->∀k,k<=s->((dpM f n s).getD k 0).natAbs<=2000^pop n k
 |0,_,k,hk=>by
  obtain rfl:k=0:=by omega
  simp only[dpM,List.getD_cons_zero];exact Nat.one_le_pow _ _ (by omega)|s+1,hs,k,hk=>by
  have ih:=Zhy hn hf s (by omega);have hl:=ZcA f n s;unfold dpM;by_cases hks:k<=s;·rw[Zj8 (by omega)];exact ih k hks
  ·obtain rfl:k=s+1:=by omega
   rw[Zhx (by omega)];have hn6:n∈List.range 6:=Zwo.2 (by omega);have hsr:s+1∈List.range (2^n):=Zwo.2 hs;have hp1:=Zj7 n hn6 _ hsr (by omega);have hpn:=Ze3 n hn6 _ hsr;unfold Zb2;have:=Zhw (f:=f) (M:=dpM f n s) (row:=pop n (s+1)-1) (set:=s+1) (Z:=2000^(pop n (s+1)-1)) n 0 1 (.inl rfl) (fun j hj=>hf _ _ (by omega) hj) fun j hj hb=>by obtain⟨e1,e2⟩:=Zhv n hn6 _ hsr j (Zwo.2 hj) hb;have h2:=Zw8 j;have:=ih (s+1-2^j) (by omega);rwa [show pop n (s+1-2^j)=pop n (s+1)-1 by omega]at this
   refine ZwP this ?_;obtain⟨p,hp⟩:∃p,pop n (s+1)=p+1:=⟨pop n (s+1)-1,by omega⟩;rw[hp];simp only[ZwJ,Int.natAbs_zero,Zw9,Nat.pow_succ];have:n*(400*2000^p)<=5*(400*2000^p):=ZwZ _ hn;omega
theorem Zpy{f:Nat->Nat->Int} {n s j:Nat} (hn:n<=5)(hf:ZdB f n)(hs:s+1<2^n)(hj:j<n)(hb:((s+1)>>>j)%2=1):((dpM f n s).getD (s+1-2^j) 0).natAbs<=16000000000000/\2^j<=s+1/\pop n (s+1)-1<n:=by
 have hn6:n∈List.range 6:=Zwo.2 (by omega);have hsr:s+1∈List.range (2^n):=Zwo.2 hs;obtain⟨e1,e2⟩:=Zhv n hn6 _ hsr j (Zwo.2 hj) hb;have hpn:=Ze3 n hn6 _ hsr;have h2:=Zw8 j;have:=Zhy hn hf s (by omega) (s+1-2^j) (by omega);refine⟨ZwP this ?_,e2,by omega⟩;have h4:pop n (s+1-2^j)<=4:=by omega
 exact ZwP (Zw5 (by omega) h4) (by decide)
end Go.Proofs
namespace Go.Proofs
open Tryz
open Go.RowKit
variable {f:Nat->Nat->Int} {n s:Nat} {acc:Int}
theorem info3:(prog.info? 3).map (fun i=>(i.zero,i.size,i.bytes))=some (some (.int .i64 0),1,8):=by kernel_rfl
theorem Zd9(n:Nat) (hn:n<=100000) (W:World):(Instr.makeSlice 28 (.int .i64 n) (.int .i64 n)).run prog W=.ok (.slice (some ⟨W.heap.size,0,none⟩) n n) (W.alloc (.cells (ZaP (List.replicate n 0)) 3 (0,0))):=by rw[<-Zo8];exact run_make_row' 28 3 (.int .i64 0) 8 underlying28 info3 rfl .i64 .i64 n (by omega) (by omega) W
theorem Zpz:∀s∈List.range 32,∀c∈List.range 5,(s>>>c)%2=1->bits .andNot .i64 (s:Int) ((2^c:Nat):Int)=((s-2^c:Nat):Int):=by decide+kernel
theorem ZpA:∀s∈List.range 32,bits .and .i64 (s:Int) 1=((s%2:Nat):Int):=by decide+kernel
def Zbp(f:Nat->Nat->Int)(n s:Nat)(acc:Int):List Int:=dpM f n (s-1)++acc::List.replicate (2^n-1-s) 0
theorem ZpB{acc':Int} (h1:1<=s):(Zbp f n s acc).set s acc'=Zbp f n s acc':=by unfold Zbp;rw[Zwx _ _ (by rw[ZcA];omega),ZcA,show s-(s-1+1)=0 by omega];rfl
theorem Zhz(h1:1<=s):(Zbp f n s acc)[s]?=some acc:=by unfold Zbp;rw[ZvI (by rw[ZcA];omega),ZcA,show s-(s-1+1)=0 by omega];rfl
theorem ZpC{k:Nat} (h1:1<=s)(hk:k<s):(Zbp f n s acc)[k]?=some ((dpM f n (s-1)).getD k 0):=by unfold Zbp;have hl:=ZcA f n (s-1);rw[ZvH (by omega),ZvG,ZvL (by omega)];rfl
theorem ZpD(h1:1<=s)(h2:s+1<2^n):Zbp f n s (Zb2 f n (dpM f n (s-1)) s)=Zbp f n (s+1) 0:=by obtain⟨r,rfl⟩:∃r,s=r+1:=⟨s-1,by omega⟩;unfold Zbp;simp only[ZwJ];rw[show dpM f n (r+1)=dpM f n r++[Zb2 f n (dpM f n r) (r+1)]from rfl,show 2^n-1-(r+1)=(2^n-1-(r+1+1))+1 by omega,List.replicate_succ];simp
theorem ZpE(h1:1<=s)(h2:s+1=2^n):(Zbp f n s (Zb2 f n (dpM f n (s-1)) s))[2^n-1]?=some (Z0 f n):=by obtain⟨r,rfl⟩:∃r,s=r+1:=⟨s-1,by omega⟩;rw[show 2^n-1=r+1 by omega,Zhz h1];unfold Z0;rw[show 2^n-1=r+1 by omega,ZwJ];show _=some ((dpM f n r++[Zb2 f n (dpM f n r) (r+1)]).getD (r+1) 0);rw[Zhx (by rw[ZcA])]
theorem ZpF(h:1<=n):(List.replicate (2^n) 0).set 0 1=Zbp f n 1 0:=by unfold Zbp;obtain⟨r,hr⟩:∃r,2^n=r+2:=⟨2^n-2,by have:2^1<=2^n:=Zw5 (by omega) h;omega⟩;rw[hr,show r+2-1-1=r by omega];rfl
variable {f:Nat->Nat->Int} {M:List Int} {row s d K x n:Nat} {acc g:Int}
theorem ZpG:∀n∈List.range 6,∀s∈List.range (2^n),s≠0->(pcn 8 s-1)+1=pcn 8 s/\pop n s-1=pcn 8 s-1/\pcn 8 s-1<n/\IntKind.u64.wrap (s:Int)=(s:Int):=by decide+kernel
theorem ZpH:∀s∈List.range 32,∀c∈List.range 5,(s:Int) / 2^c=((s>>>c:Nat):Int):=by decide+kernel
theorem ZpI(h:(s>>>d)%2=0):ZaD f M row s (d+1) acc g=ZaD f M row s d acc g:=by
 conv=>lhs;unfold ZaD
 rw[if_pos h]
theorem ZpJ{m:Int} (h:(s>>>d)%2=1) (hm:M.getD (s-2^d) 0=m):ZaD f M row s (d+1) acc g=ZaD f M row s d (if m=0 then acc else acc+g*f row d*m) (-g):=by
 conv=>lhs;unfold ZaD
 rw[if_neg (by omega),hm]
theorem Zj9(h:x<=(n-(d+1))*K)(hd:d+1<=n):x<=(n-d)*K:=ZwP h (ZwZ _ (by omega))
theorem ZpK{y:Nat} (h:x<=(n-(d+1))*K)(hy:y<=x+K)(hd:d+1<=n):y<=(n-d)*K:=by rw[show n-d=n-(d+1)+1 by omega,ZwI,Nat.one_mul];omega
theorem ZpL(h:x<=(n-d)*K)(hn:n<=5):x<=5*K:=ZwP h (ZwZ _ (by omega))
theorem ZpM(A:Option Addr)(xs:List IR)(cp n:Nat)(q:Int)(w:World)(hrows:Zcm w A xs)(hn:xs.length=n)(hl:∀x∈xs,x.l.length=n+1)(h1:1<=n)(h5:n<=5)(hf:ZdB (Zcd (xs.map IR.l) q) n):Calls prog 115 #[.slice A n cp,.int .i64 q] w fun e w'=>e=.returned (.int .i64 (Z0 (Zcd (xs.map IR.l) q) n))/\Below w.heap.size w w':=by
 obtain⟨f,hfe⟩:∃f,Zcd (xs.map IR.l) q=f:=⟨_,rfl⟩;have hAt:=Zvc fun(row col:Nat)(h1:row<n)(h2:col<n) W (hb:Below w.heap.size w W)(e1:W.heap[w.heap.size]?=some (.cells #[.slice A n cp] 160 (0,0)))(e2:W.heap[w.heap.size+1]?=some (.cells #[.int .i64 q] 3 (0,0)))(e3:W.heap[w.heap.size+2]?=some (.cells #[.int .i64 n] 3 (0,0)))=>Zpn A xs cp n q (w.heap.size+1) (w.heap.size+2) w.heap.size row col W e2 e3 e1 (hrows.below hb) hn hl h1 h2;rw[hfe]at hAt hf |-;clear hfe hrows hl hn;obtain⟨P,hP⟩:∃P,2^n=P:=⟨_,rfl⟩;have hP2:2<=P/\P<=32:=by rcases n with _|_|_|_|_|_|n<;>first|omega|(subst hP;decide)
 have hmk:=Zvc (Zd9 P (by omega));have hP':=Zvc hP;have hf':=Zvc hf;have h00:(ZaP (List.replicate P 0))[0]?=some (.int .i64 0):=by rw[ZeX,List.getElem?_replicate,if_pos (by omega)];rfl
 have hpI:(2:Int)^n=(P:Int):=by rw[<-hP];simp
 clear hP hf;go_enter func115,ntmps115;have hmk':=hmk.out;go_wp2;clear h00 hmk';go_loopw [8] (fun i wr=>∃s:Nat,1<=s/\s<=P/\i=.int .i64 s/\Hid ((wr.heap[w.heap.size]?=some (.cells #[.slice A n cp] 160 (0,0))/\wr.heap[w.heap.size+1]?=some (.cells #[.int .i64 q] 3 (0,0))/\wr.heap[w.heap.size+2]?=some (.cells #[.int .i64 n] 3 (0,0))/\ZO 3 wr (w.heap.size+3) (if s<P then Zbp f n s 0 else Zbp f n (s-1) (Zb2 f n (dpM f n (s-2)) (s-1)))/\Below w.heap.size w wr))) (fun i _=>P-(intOf i).toNat);case atStart=>
  refine⟨1,ZwO _,by omega,rfl,?_,?_,?_,?_,?_⟩;·(repeat (first|assumption|(refine Zz _ _ ?_;(simp;done))|refine ZB ?_|refine Zy ?_ _|refine ZA ?_ (by simp<;>omega) _))
  ·(repeat (first|assumption|(refine Zz _ _ ?_;(simp;done))|refine ZB ?_|refine Zy ?_ _|refine ZA ?_ (by simp<;>omega) _))
  ·(repeat (first|assumption|(refine Zz _ _ ?_;(simp;done))|refine ZB ?_|refine Zy ?_ _|refine ZA ?_ (by simp<;>omega) _))
  ·rw[if_pos (by omega),<-ZpF h1,hP'.out];have:=ZO.new (T:=3) (((w.alloc (.cells #[.slice A n cp] 160 (0,0))).alloc (.cells #[.int .i64 q] 3 (0,0))).alloc (.cells #[.int .i64 n] 3 (0,0))) ((List.replicate P 0).set 0 1);simp only[World.size_alloc]at this;rw[Zhn];exact this
  ·go_grown
 case round=>
  obtain⟨s,hs1,hsP,rfl,hmem⟩:=hrel;obtain⟨m0,m1,m2,m3,hbw⟩:=hmem.out;clear hmem;have C2:=bk1 m2;by_cases hlt:s<P
  ·have hsI:(s:Int)<(P:Int):=by omega
   rw[if_pos hlt]at m3;have hs32:s∈List.range 32:=Zwo.2 (by omega);obtain⟨db1,db2,db3,db4⟩:=ZpG n (Zwo.2 (by omega)) s (Zwo.2 (by rw[hP'.out];exact hlt)) (by omega);obtain⟨row,hrow⟩:∃row,pcn 8 s-1=row:=⟨_,rfl⟩;rw[hrow]at db1 db2 db3;have hO:=Zvc fun W=>Zpx s (by omega) W;rw[<-db1]at hO;have hsm:=Zvc fun(d:Nat)(hd:d<n)(hb:(s>>>d)%2=1)=>(by obtain⟨r,rfl⟩:∃r,s=r+1:=⟨s-1,by omega⟩;exact Zpy h5 hf'.out (by rw[hP'.out];exact hlt) hd hb:((dpM f n (s-1)).getD (s-2^d) 0).natAbs<=16000000000000/\2^d<=s/\pop n s-1<n);have hnext:=Zvc fun h=>ZpD (f:=f) (n:=n) (s:=s) hs1 h;have hV0:Hid (ZaD f (dpM f n (s-1)) row s n 0 1=Zb2 f n (dpM f n (s-1)) s):=by unfold Zb2;rw[db2];exact rfl
   have hbits:=Zvc (ZpH s hs32);have hand:=Zvc (Zpz s hs32);obtain⟨V,hV⟩:∃V,Zb2 f n (dpM f n (s-1)) s=V:=⟨_,rfl⟩;rw[hV]at hnext hV0;have hV':=Zvc hV;clear hV hrow db1 db2 hs32;have hs32:=Zvc (show s<32 by omega);go_wp2_with (go_at_call 125;refine(hO.out _).mono ?_;rintro e w2 ⟨rfl,rfl⟩);clear hO db4;go_loopw [10,11] (fun sg j wr=>∃(c:Nat) (g acc:Int),c<=n/\j=.int .i64 ((c:Int)-1)/\sg=.int .i64 g/\(g=1∨g=-1)/\Hid (ZaD f (dpM f n (s-1)) row s c acc g=V)/\Hid (acc.natAbs<=(n-c)*6400000000000000)/\Hid ((wr.heap[w.heap.size]?=some (.cells #[.slice A n cp] 160 (0,0))/\wr.heap[w.heap.size+1]?=some (.cells #[.int .i64 q] 3 (0,0))/\wr.heap[w.heap.size+2]?=some (.cells #[.int .i64 n] 3 (0,0))/\ZO 3 wr (w.heap.size+3) (Zbp f n s acc)/\Below w.heap.size w wr))) (fun _ j _=>(intOf j+1).toNat);case atStart=>exact⟨n,1,0,ZwO _,rfl,rfl,.inl rfl,hV0.out,by show (0:Int).natAbs<=_;omega,m0,m1,m2,m3,hbw⟩
   case round=>
    clear m0 m1 m2 m3 hbw C2;obtain⟨c',g,acc,hc,rfl,rfl,hg,hmc,hacc,hmem⟩:=hrel;obtain⟨m0,m1,m2,m3,hbw⟩:=hmem.out;clear hmem;have C2:=bk1 m2;rcases c' with _|d
    ·have hj:((0:Nat):Int)-1=-1:=rfl;rw[hj];have hacc0:acc=V:=hmc.out;subst hacc0;go_wp2;go_roundw;case rel=>
      refine⟨s+1,by omega,by omega,by go_num,m0,m1,m2,?_,hbw⟩;by_cases hl:s+1<P;·rw[if_pos hl,<-hnext.out (by rw[hP'.out];exact hl)];exact m3
      ·rw[if_neg hl,show s+1-1=s by omega,show s+1-2=s-1 by omega,hV'.out];exact m3
     case measure=>simp[intOf]<;>omega
    ·have hj:((d+1:Nat):Int)-1=(d:Int):=by omega
     rw[hj];obtain⟨t,ht⟩:∃t,s>>>d=t:=⟨_,rfl⟩;have hsd:(s:Int) / 2^d=(t:Int):=by rw[<-ht];exact hbits.out d (Zwo.2 (by omega))
     have ht32:t<32:=by
      have:s>>>d<=s:=by rw[Nat.shiftRight_eq_div_pow];exact Nat.div_le_self _ _
      have:=hs32.out;omega
     have hb1:bits .and .i64 (t:Int) 1=((t%2:Nat):Int):=ZpA t (Zwo.2 ht32);rcases Nat.mod_two_eq_zero_or_one t with hb|hb
     ·rw[hb]at hb1;simp only[Int.natCast_zero,Int.natCast_one,Int.cast_ofNat_Int]at hb1;have hmc2:=Zvc ((ZpI (by rw[ht];exact hb)).symm.trans hmc.out);clear hb ht ht32;go_wp2;go_roundw;case rel=>exact⟨d,g,acc,by omega,rfl,rfl,hg,hmc2.out,Zj9 hacc.out hc,m0,m1,m2,m3,hbw⟩
      case measure=>simp[intOf]<;>omega
     ·rw[hb]at hb1;simp only[Int.natCast_zero,Int.natCast_one,Int.cast_ofNat_Int]at hb1;obtain⟨z1,z2,z3⟩:=hsm.out d (by omega) (by rw[ht];exact hb);obtain⟨m,hm⟩:∃m,(dpM f n (s-1)).getD (s-2^d) 0=m:=⟨_,rfl⟩;have hmc2:=Zvc (hmc.out.symm.trans (ZpJ (by rw[ht];exact hb) hm));obtain⟨D,hD⟩:∃D,2^d=D:=⟨_,rfl⟩;have hD1:1<=D:=by rw[<-hD];exact Nat.one_le_two_pow
      have hDI:(2:Int)^d=(D:Int):=by rw[<-hD];simp
      have hD16:D<=32:=by rw[hD]at z2;omega
      have han:bits .andNot .i64 (s:Int) (D:Int)=((s-D:Nat):Int):=by rw[<-hD];exact hand.out d (Zwo.2 (by omega)) (by rw[ht];exact hb)
      rw[hm]at z1;rw[hD]at z2 hm;obtain⟨k,hk⟩:∃k,s-D=k:=⟨_,rfl⟩;rw[hk]at han hm;have ck:wr.cell? ⟨w.heap.size+3,k,none⟩=some (.int .i64 m):=m3.load (by rw[ZpC hs1 (by omega),hm]);have hkI:(k:Int)<(P:Int):=by omega
      have hsd2:(s:Int) / (D:Int)=(t:Int):=by rw[<-hDI];exact hsd
      clear hb ht ht32 hm hmc hk hD;by_cases hm0:m=0
      ·subst hm0;have hmc3:=Zvc (show ZaD f (dpM f n (s-1)) row s d acc (-g)=V from by have:=hmc2.out;rw[if_pos rfl]at this;exact this.symm);clear hmc2;have hg2:-g=1∨-g=-1:=by omega
       go_wp2;go_roundw;case rel=>exact⟨d,-g,acc,by omega,rfl,rfl,hg2,hmc3.out,Zj9 hacc.out hc,m0,m1,m2,m3,hbw⟩
       case measure=>simp[intOf]<;>omega
      ·have hg2:-g=1∨-g=-1:=by omega
       have hf1:=hf'.out row d db3 (by omega);obtain⟨v,hv⟩:∃v,f row d=v:=⟨_,rfl⟩;rw[hv]at hf1 hmc2;have hA:=Zvc fun W hb e1 e2 e3=>hAt.out row d db3 (by omega) W hb e1 e2 e3;rw[hv]at hA;obtain⟨g1,hg1⟩:∃g1,g*v=g1:=⟨_,rfl⟩;obtain⟨g3,hg3⟩:∃g3,g1*m=g3:=⟨_,rfl⟩;have hg1b:g1.natAbs<=400:=by rw[<-hg1];rcases hg with rfl|rfl<;>omega
       have hg3b:g3.natAbs<=6400000000000000:=by rw[<-hg3];exact ZwP (Zbo hg1b z1) (by decide)
       have hact:=ZpL hacc.out h5;obtain⟨a2,ha2⟩:∃a2,acc+g3=a2:=⟨_,rfl⟩;have ha2b:a2.natAbs<=acc.natAbs+6400000000000000:=by omega
       have hw1:IntKind.i64.wrap (g*v)=g1:=by rw[hg1];exact Zva _ (by omega)
       have hw2:IntKind.i64.wrap (g1*m)=g3:=by rw[hg3];exact Zva _ (by omega)
       have hw3:IntKind.i64.wrap (acc+g3)=a2:=by rw[ha2];exact Zva _ (by omega)
       have hmc3:=Zvc (show ZaD f (dpM f n (s-1)) row s d a2 (-g)=V from by have:=hmc2.out;rw[if_neg hm0,hg1,hg3,ha2]at this;exact this.symm);have hacc2:=Zvc (ZpK hacc.out ha2b hc);have cs:wr.cell? ⟨w.heap.size+3,s,none⟩=some (.int .i64 acc):=m3.load (Zhz hs1);have hmz : (m != 0) = true := by simpa using hm0
       clear hmc2 hg1 hg3 ha2 hg1b hg3b hact ha2b hm0 hf1 z1 hv;have hA2:=Zvc fun(x:Grew wr)=>hA.out x.val (via hbw x.ok) (Zw x.ok m0) (Zw x.ok m1) (Zw x.ok m2);have hsz:=m3.size;have hrow1:(row:Int)+1-1=(row:Int):=by omega
       clear hA;go_wp2;refine Zav w 14 (by kernel_rfl) (by kernel_rfl) (by go_grown) ?_;intro hgc hbx;simp only[ZwD,ZwF,Zvt,Zvu];repeat (go_big_quiet_step ((go_at_call 124;with_reducible exact Zd (hA2.out _))))
       refine wpQuiet_nil ?_;intro wb hb_wb hw_wb hs_wb;clear hgc hbx;have n0:=Zw hb_wb m0;have n1:=Zw hb_wb m1;have n2:=Zw hb_wb m2;have n3:=m3.below hb_wb;have cs2:=n3.load (Zhz hs1);have fs2:=n3.frozen s;clear m0 m1 m2 m3 C2 cs ck hA2;go_wp2;go_roundw;case rel=>have n4:=n3.store s a2;rw[ZpB hs1]at n4;exact⟨d,-g,a2,by omega,rfl,rfl,hg2,hmc3.out,hacc2.out,ZA n0 (by simp<;>omega) _,ZA n1 (by simp<;>omega) _,ZA n2 (by simp<;>omega) _,n4,hw_wb.setCell (by simp<;>omega) _⟩
       case measure=>simp[intOf]<;>omega
  ·have hsP2:s=P:=by omega
   subst hsP2;rw[if_neg (by omega)]at m3;have hlast:=m3.load (k:=s-1) (x:=Z0 f n) (by have:=ZpE (f:=f) (n:=n) (s:=s-1) (by omega) (by rw[hP'.out];omega);rw[hP'.out]at this;exact this);obtain⟨k,hk⟩:∃k,s-1=k:=⟨_,rfl⟩;rw[hk]at hlast;have hkI:(s:Int)-1=(k:Int):=by omega
   have hkI2:(k:Int)<(s:Int):=by omega
   clear hlt;go_wp2;go_ret;exact⟨rfl,hbw⟩
variable {es:List En} {np:Nat}
structure RightE (es:List En)(np:Nat):Prop where
 n8:es.length<=8
 co:∀x∈es,x.co.length=np/\Small 20 x.co/\x.mo.natAbs<=20
def exs(es:List En):List Ex:=es.map En.ex
theorem Ze4{k:Nat} {x:En} (h:es[k]?=some x):(exs es).getD k default=(x.co,x.mo):=by simp[exs,ZvG,h,En.ex]
theorem RightE.exs_co(h:RightE es np):∀x∈exs es,Small 20 x.1:=fun x hx=>by obtain⟨y,hy,rfl⟩:=Zwm.1 hx;exact(h.co y hy).2.1
theorem RightE.exs_mo(h:RightE es np):∀x∈exs es,x.2.natAbs<=20:=fun x hx=>by obtain⟨y,hy,rfl⟩:=Zwm.1 hx;exact(h.co y hy).2.2
theorem ZaR(es:List En):(exs es).length=es.length:=Zv2 ..
theorem Zka(pA eA wA:Option Addr)(pn pc ec wc np:Nat)(es:List En)(W:List Int)(den lev:Int)(c:Nat)(w:World)(hR:RightE es np)(hE:Zaw w eA es)(hW:At 1 Zc w wA W)(hl:W.length=es.length)(hc:c<np)(sW:Small 10000000000000000 W):Calls prog 54 #[.agg #[.slice pA pn pc,.slice eA es.length ec],.agg #[.int .i64 den,.int .i64 lev,.slice wA W.length wc],.int .i64 c] w fun e w'=>e=.returned (.int .i64 (putsL (exs es) W c))/\Below w.heap.size w w':=by
 have h8:=hR.n8;have htake:=Zvc fun k hk=>Zj4 c (exs es) W k (by rw[ZaR];exact hk) (by rw[hl];exact hk);have hbd:=Zvc fun k=>ZfW (X:=20) (Y:=10000000000000000) c (exs es) W k hR.exs_co sW;have hall:=Zvc (show putsL ((exs es).take es.length) (W.take es.length) c=putsL (exs es) W c by rw[<-ZaR,ZwB,ZaR,<-hl,ZwB]);have gE:=Zvc fun W' (hb:Below w.heap.size w W') k (hk:k<es.length)=>(by
  obtain⟨b,o,hA,hlt,hcc⟩:=(hE.below hb).1 k _ (ZvL hk);have hx:=ZvX hk;obtain⟨h1,h2,-⟩:=hR.co _ hx;obtain⟨b2,o2,hA2,hlt2,hc2⟩:=ZaF ((hE.below hb).2 _ hx) (k:=c) (by omega);refine⟨es[k],b,o,b2,o2,hA,hlt,hlt2,hA2,h1,?_,?_,?_,hc2,h2.get c,Ze4 (ZvL hk)⟩;·simpa using hcc 0 _ rfl
  ·have:=hcc 1 _ rfl;rw[hA2]at this;exact this
  ·exact hcc 2 _ rfl:∃x:En,∃b o b2 o2,eA=some ⟨b,o,none⟩/\b<W'.heap.size/\b2<W'.heap.size/\x.A=some ⟨b2,o2,none⟩/\x.co.length=np/\W'.cell? ⟨b,o+k*3,none⟩=some (.string x.nm)/\W'.cell? ⟨b,o+k*3+1,none⟩=some (.slice (some ⟨b2,o2,none⟩) x.co.length x.c)/\W'.cell? ⟨b,o+k*3+2,none⟩=some (.int .i64 x.mo)/\W'.cell? ⟨b2,o2+c,none⟩=some (.int .i64 (x.co.getD c 0))/\(x.co.getD c 0).natAbs<=20/\(exs es).getD k default=(x.co,x.mo));have gW:=Zvc fun W' (hb:Below w.heap.size w W') k (hk:k<es.length)=>ZaF (hW.below hb) (k:=k) (by omega);have sw:=Zvc sW.get;obtain⟨N,hN⟩:∃N,es.length=N:=⟨_,rfl⟩;rw[hl,hN];rw[hN]at htake hall gE gW h8;obtain⟨S,hS⟩:∃S:Nat->Int,(fun k=>putsL ((exs es).take k) (W.take k) c)=S:=⟨_,rfl⟩;have hSk:∀k,putsL ((exs es).take k) (W.take k) c=S k:=fun k=>by rw[<-hS]
 have hS0:S 0=0:=by rw[<-hS];cases es<;>cases W<;>simp[putsL,exs]
 simp only[ZaR,hN,hSk]at hall htake hbd;obtain⟨R,hR'⟩:∃R,putsL (exs es) W c=R:=⟨_,rfl⟩;rw[hR']at hall |-;clear hE hW hl sW hS hSk hR' hR hN;go_enter func54,ntmps54;go_wp2;go_loopw [7,13] (fun s i wr=>∃k:Nat,k<=N/\i=.int .i64 k/\s=.int .i64 (S k)/\wr.heap[w.heap.size]?=some (.cells #[.slice pA pn pc,.slice eA N ec] 25 (0,0))/\wr.heap[w.heap.size+1]?=some (.cells #[.int .i64 den,.int .i64 lev,.slice wA N wc] 30 (0,0))/\Below w.heap.size w wr)(fun _ i _=>N-(intOf i).toNat);case atStart=>exact⟨0,Zxa _,rfl,by rw[hS0],by(repeat (first|assumption|(refine Zz _ _ ?_;(simp;done))|refine ZB ?_|refine Zy ?_ _|refine ZA ?_ (by simp<;>omega) _)),by(repeat (first|assumption|(refine Zz _ _ ?_;(simp;done))|refine ZB ?_|refine Zy ?_ _|refine ZA ?_ (by simp<;>omega) _)),by go_grown⟩
 case round=>
  obtain⟨k,hk,rfl,rfl,m0,m1,hbw⟩:=hrel;have C0:=bk2 m0;have C1:=bk3 m1;by_cases hlt:k<N
  ·have hkI:(k:Int)<(N:Int):=by omega
   obtain⟨x,b,o,b2,o2,hA1,hs1,hs2,hA2,hnp,c0,c1,c2,c3,hsx,hg⟩:=gE.out wr hbw k hlt;obtain⟨b3,o3,hA3,hs3,c4⟩:=gW.out wr hbw k hlt;subst hA1;subst hA3;have ht:=htake.out k hlt;rw[hg]at ht;have hm:=Zbo (sw.out k) hsx;have hb1:=Zc4 (hbd.out k) hk;have hb2:=Zc4 (hbd.out (k+1)) hlt;have h9:=ZwZ (10000000000000000*20) h8;have hcI:(c:Int)<(x.co.length:Int):=by omega
   obtain⟨u,hu⟩:∃u,W.getD k 0=u:=⟨_,rfl⟩;obtain⟨v,hv⟩:∃v,x.co.getD c 0=v:=⟨_,rfl⟩;rw[hu]at c4 ht hm;dsimp only at ht;rw[hv]at c3 ht hm;obtain⟨z,hz⟩:∃z,u*v=z:=⟨_,rfl⟩;rw[hz]at ht hm;have hw1:IntKind.i64.wrap (u*v)=z:=by rw[hz];exact Zva _ (by omega)
   have hw2:IntKind.i64.wrap (S k+z)=S (k+1):=by rw[<-ht];exact Zva _ (by omega)
   generalize x.co.length=L at*;clear hz ht hm hb1 hb2 hu hv h9 hsx hg hA2 hnp;go_wp2;refine ZbA w (by kernel_rfl) (by kernel_rfl) (by go_grown) ?_;intro hgc hbx;repeat (go_big_quiet_step (fail))
   refine wpQuiet_nil ?_;intro wb hb_wb hw_wb hs_wb;clear hgc hbx;simp only[World.size_alloc]at hs_wb;have n0:=Zw hb_wb (Zy m0 _);have n1:=Zw hb_wb (Zy m1 _);clear m0 m1 C0 C1 c0 c1 c2 c3 c4;go_wp2;go_roundw;case rel=>exact⟨k+1,by omega,by go_num,rfl,n0,n1,hw_wb⟩
   case measure=>simp[intOf]<;>omega
  ·obtain rfl:k=N:=by omega
   have e:S k=R:=hall.out;clear hlt;go_wp2;go_ret;exact⟨Zbn e,hbw⟩
theorem ZpN(pA eA wA:Option Addr)(pn pc ec wc np:Nat)(es:List En)(W:List Int)(den lev:Int)(w:World)(hR:RightE es np)(hE:Zaw w eA es)(hW:At 1 Zc w wA W)(hl:W.length=es.length)(sW:Small 10000000000000000 W):Calls prog 55 #[.agg #[.slice pA pn pc,.slice eA es.length ec],.agg #[.int .i64 den,.int .i64 lev,.slice wA W.length wc]] w fun e w'=>e=.returned (.int .i64 (spentL (exs es) W))/\Below w.heap.size w w':=by
 have h8:=hR.n8;have htake:=Zvc fun k hk=>Zj5 (exs es) W k (by rw[ZaR];exact hk) (by rw[hl];exact hk);have hbd:=Zvc fun k=>Ze2 (X:=20) (Y:=10000000000000000) (exs es) W k hR.exs_mo sW;have hall:=Zvc (show spentL ((exs es).take es.length) (W.take es.length)=spentL (exs es) W by rw[<-ZaR,ZwB,ZaR,<-hl,ZwB]);have gE:=Zvc fun W' (hb:Below w.heap.size w W') k (hk:k<es.length)=>(by
  obtain⟨b,o,hA,hlt,hcc⟩:=(hE.below hb).1 k _ (ZvL hk);have hx:=ZvX hk;obtain⟨h1,h2,-⟩:=hR.co _ hx;have hm:=(hR.co _ hx).2.2;refine⟨es[k],b,o,hA,hlt,?_,?_,?_,hm,Ze4 (ZvL hk)⟩;·simpa using hcc 0 _ rfl
  ·exact hcc 1 _ rfl
  ·exact hcc 2 _ rfl:∃x:En,∃b o,eA=some ⟨b,o,none⟩/\b<W'.heap.size/\W'.cell? ⟨b,o+k*3,none⟩=some (.string x.nm)/\W'.cell? ⟨b,o+k*3+1,none⟩=some (.slice x.A x.co.length x.c)/\W'.cell? ⟨b,o+k*3+2,none⟩=some (.int .i64 x.mo)/\x.mo.natAbs<=20/\(exs es).getD k default=(x.co,x.mo));have gW:=Zvc fun W' (hb:Below w.heap.size w W') k (hk:k<es.length)=>ZaF (hW.below hb) (k:=k) (by omega);have sw:=Zvc sW.get;obtain⟨N,hN⟩:∃N,es.length=N:=⟨_,rfl⟩;rw[hl,hN];rw[hN]at htake hall gE gW h8;obtain⟨S,hS⟩:∃S:Nat->Int,(fun k=>spentL ((exs es).take k) (W.take k))=S:=⟨_,rfl⟩;have hSk:∀k,spentL ((exs es).take k) (W.take k)=S k:=fun k=>by rw[<-hS]
 have hS0:S 0=0:=by rw[<-hS];cases es<;>cases W<;>simp[spentL,exs]
 simp only[ZaR,hN,hSk]at hall htake hbd;obtain⟨R,hR'⟩:∃R,spentL (exs es) W=R:=⟨_,rfl⟩;rw[hR']at hall |-;clear hE hW hl sW hS hSk hR' hR hN;go_enter func55,ntmps55;go_wp2;go_loopw [5,11] (fun s i wr=>∃k:Nat,k<=N/\i=.int .i64 k/\s=.int .i64 (S k)/\wr.heap[w.heap.size]?=some (.cells #[.slice pA pn pc,.slice eA N ec] 25 (0,0))/\wr.heap[w.heap.size+1]?=some (.cells #[.int .i64 den,.int .i64 lev,.slice wA N wc] 30 (0,0))/\Below w.heap.size w wr)(fun _ i _=>N-(intOf i).toNat);case atStart=>exact⟨0,Zxa _,rfl,by rw[hS0],by(repeat (first|assumption|(refine Zz _ _ ?_;(simp;done))|refine ZB ?_|refine Zy ?_ _|refine ZA ?_ (by simp<;>omega) _)),by(repeat (first|assumption|(refine Zz _ _ ?_;(simp;done))|refine ZB ?_|refine Zy ?_ _|refine ZA ?_ (by simp<;>omega) _)),by go_grown⟩
 case round=>
  obtain⟨k,hk,rfl,rfl,m0,m1,hbw⟩:=hrel;have C0:=bk2 m0;have C1:=bk3 m1;by_cases hlt:k<N
  ·have hkI:(k:Int)<(N:Int):=by omega
   obtain⟨x,b,o,hA1,hs1,c0,c1,c2,hsx,hg⟩:=gE.out wr hbw k hlt;obtain⟨b3,o3,hA3,hs3,c4⟩:=gW.out wr hbw k hlt;subst hA1;subst hA3;have ht:=htake.out k hlt;rw[hg]at ht;have hm:=Zbo (sw.out k) hsx;have hb1:=Zc4 (hbd.out k) hk;have hb2:=Zc4 (hbd.out (k+1)) hlt;have h9:=ZwZ (10000000000000000*20) h8;obtain⟨u,hu⟩:∃u,W.getD k 0=u:=⟨_,rfl⟩;obtain⟨v,hv⟩:∃v,x.mo=v:=⟨_,rfl⟩;rw[hu]at c4 ht hm;dsimp only at ht;rw[hv]at c2 ht hm;obtain⟨z,hz⟩:∃z,u*v=z:=⟨_,rfl⟩;rw[hz]at ht hm;have hw1:IntKind.i64.wrap (u*v)=z:=by rw[hz];exact Zva _ (by omega)
   have hw2:IntKind.i64.wrap (S k+z)=S (k+1):=by rw[<-ht];exact Zva _ (by omega)
   generalize x.co.length=L at*;clear hz ht hm hb1 hb2 hu hv h9 hsx hg;go_wp2;refine ZbA w (by kernel_rfl) (by kernel_rfl) (by go_grown) ?_;intro hgc hbx;repeat (go_big_quiet_step (fail))
   refine wpQuiet_nil ?_;intro wb hb_wb hw_wb hs_wb;clear hgc hbx;simp only[World.size_alloc]at hs_wb;have n0:=Zw hb_wb (Zy m0 _);have n1:=Zw hb_wb (Zy m1 _);clear m0 m1 C0 C1 c0 c1 c2 c4;go_wp2;go_roundw;case rel=>exact⟨k+1,by omega,by go_num,rfl,n0,n1,hw_wb⟩
   case measure=>simp[intOf]<;>omega
  ·obtain rfl:k=N:=by omega
   have e:S k=R:=hall.out;clear hlt;go_wp2;go_ret;exact⟨Zbn e,hbw⟩
end Go.Proofs
namespace Go.Proofs
open Go.RowKit
variable {w w':World} {base:Nat} {e:TypeId} {v:Value}
theorem ZpO(hb:Below w.heap.size w w'):w.grownBy w' none:=⟨hb.os,hb.tape,hb.output,hb.size,fun k hk _=>hb.block k hk⟩
theorem ZN{size:Nat} {n:Nat} {xs:List Value} (h:w.ownsRow base e size v n xs)(hb:Below w.heap.size w w'):w'.ownsRow base e size v n xs:=h.kept (ZpO hb) (by cases v.ownBlock<;>simp)
theorem Zkb{α β:Type} (cs:α->List β)(sz:Nat)(hsz:∀x,(cs x).length=sz):∀(l:List α)(k j:Nat)(x:α)(v:β),l[k]?=some x->(cs x)[j]?=some v->(l.flatMap cs)[k*sz+j]?=some v|[],k,j,x,v,h,_=>by simp at h|a::l,0,j,x,v,h,hv=>by simp only[ZvK,Zxi]at h;subst h;rw[ZvB,Zxb,Zw9,ZvH (ZvO.1 hv).1];exact hv|a::l,k+1,j,x,v,h,hv=>by simp only[ZvJ]at h;have ih:=Zkb cs sz hsz l k j x v h hv;rw[ZvB,ZvI (by rw[hsz];rw[Nat.succ_mul];omega),hsz,show (k+1)*sz+j-sz=k*sz+j by rw[Nat.succ_mul];omega];exact ih
theorem ZdC{α:Type} {cs:α->List Value} {sz:Nat} {l:List α} (hsz:∀x,(cs x).length=sz)(h:w.ownsRow base e sz v l.length (l.flatMap cs)):∃A cap,v=.slice A l.length cap/\At sz cs w A l:=by
 rcases h.2 with⟨rfl,hn⟩|⟨g,cap,cur,rfl,hb,hg,hnc,hcm,hcs,ht⟩;·have:l=[]:=Zvw hn;subst this;exact⟨none,0,rfl,fun k x hx=>by simp at hx⟩
 ·refine⟨some ⟨g,0,none⟩,cap,rfl,fun k x hx=>⟨g,0,rfl,(Zuo.1 hg).1,fun j u hu=>?_⟩⟩;have hf:=Zkb cs sz hsz l k j x u hx hu;have hj:j<sz:=by rw[<-hsz x];exact(ZvO.1 hu).1
  have hkl:k<l.length:=(ZvO.1 hx).1;have hlt:k*sz+j<l.length*sz:=by have:=ZwZ sz (Nat.succ_le_of_lt hkl);rw[Nat.succ_mul]at this;omega
  rw[Zw9,h.cellAt _ hlt];exact hf
variable {w w' x x':World} {base size n sz b c:Nat} {e:TypeId} {v:Value} {xs:List Value} {row:Option Nat} {A:Option Addr}
theorem Zac(h:w.ownsRow base e size v n xs):∃A c,v=.slice A n c:=by
 rcases h.2 with⟨rfl,rfl⟩|⟨g,cap,cur,h1,-⟩;·exact⟨none,0,rfl⟩
 ·exact⟨_,_,h1⟩
theorem ZaS{base':Nat} (h:w.ownsRow base' e size v n xs)(hb:base<=base'):w.ownsRow base e size v n xs:=by
 refine⟨h.1,?_⟩;rcases h.2 with h|⟨g,cap,cur,h1,h2,h3⟩;·exact .inl h
 ·exact .inr ⟨g,cap,cur,h1,ZwP hb h2,h3⟩
theorem Zaj(h:w.ownsRow base e sz v n xs)(hb:∀g,v.ownBlock=some g->w'.heap[g]?=w.heap[g]?):w'.ownsRow base e sz v n xs:=by
 refine⟨h.1,?_⟩;rcases h.2 with h|⟨g,cap,cur,rfl,h2,h3,h4⟩;·exact .inl h
 ·exact .inr ⟨g,cap,cur,rfl,h2,(hb g rfl).trans h3,h4⟩
theorem Zea(h:w.ownsRow base e sz v n xs)(hg:w.grownBy w' row)(hne:∀g,v.ownBlock=some g->some g≠row):w'.ownsRow base e sz v n xs:=Zaj h fun g e=>hg.block g (h.lt g e).2 (hne g e)
theorem Zak(h:w.ownsRow base e size v n xs)(hb:b<base):some b≠v.ownBlock:=by intro he;have:=(h.lt b he.symm).1;omega
theorem Zal{o:Obj} (hg:x.grownBy x' row)(h:x.heap[b]?=some o)(hne:some b≠row):x'.heap[b]?=some o:=(hg.block b (lt_of_block h) hne).trans h
theorem ZW(h:Below w.heap.size w x)(hg:x.grownBy x' row)(hr:∀b,row=some b->w.heap.size<=b):Below w.heap.size w x':=h.grown hg h.size hr
theorem Zbq(w:World)(vs:List Value)(t:TypeId)(hn:n=w.heap.size):∀j u,vs[j]?=some u->(w.alloc (.cells vs.toArray t)).cell? (Addr.add ⟨n,0,none⟩ j)=some u:=by
 subst hn;intro j u hu;have h:=heap_alloc_new w (.cells vs.toArray t);have e:Addr.add ⟨w.heap.size,0,none⟩ j=⟨w.heap.size,j,none⟩:=by unfold Addr.add;split<;>simp_all
 rw[e];unfold World.cell?;simp only[h];simpa using hu
theorem Zeb(h:w.ownsRow base e 1 (.slice A n c) n xs) {k:Nat} {u:Value} (hu:xs[k]?=some u):∃g,A=some ⟨g,0,none⟩/\base<=g/\g<w.heap.size/\w.cell? ⟨g,k,none⟩=some u:=by
 rcases h.2 with⟨-,h2⟩|⟨g,cap,cur,h1,h2,h3,h4,h5,h6,h7⟩;·have:=h.1;rw[h2,Zxb]at this;have:xs=[]:=Zvw this;subst this;simp at hu
 ·cases h1;refine⟨g,rfl,h2,(Zuo.1 h3).1,?_⟩;unfold World.cell?;simp only[h3];have hk:=(ZvO.1 hu).1;have:=h.1;rw[<-h7,ZvU,if_pos (by omega),Zuy]at hu;simpa using hu
theorem ZaJ{l:List Int} (h:w.ownsRow base e 1 (.slice A n c) n (l.map (Value.int .i64))):At 1 Zc w A l:=by intro k x hx;obtain⟨g,hA,h1,h2,h3⟩:=Zeb h (k:=k) (u:=.int .i64 x) (by rw[ZvP,hx];rfl);refine⟨g,0,hA,h2,fun j v hv=>?_⟩;cases j with|zero=>simp[Zc]at hv;subst hv;simpa using h3|succ j=>simp[Zc]at hv
theorem ZpP{P:Prop} (h:Hid P):P:=h.out
end Go.Proofs
namespace Go.Proofs
open Tryz
open Go.RowKit
variable {r:List (List Int)}
def qOf(inst:Option Nat):Int:=match inst with|none=>-1|some c=>(c:Int)
theorem ZhA(r:List (List Int))(inst:Option Nat):Zcd r (qOf inst)=Zcl r inst:=by funext i c;unfold Zcd Zcl;cases inst with
 |none=>
  have:¬((c:Int)=qOf none):=by show ¬((c:Int)=-1);omega
  rw[if_neg this,if_neg (by simp)]|some d=>
  unfold qOf;by_cases h:d=c;·subst h;simp
  ·have h1:¬((c:Int)=(d:Int)):=by omega
   have h2:¬(some d=some c):=by simpa using h
   rw[if_neg h1,if_neg h2]
def Zcn(r:List (List Int)):Prop:=∀row∈r,Small 400 row
theorem Zcn.entR(h:Zcn r)(i j:Nat):(entR r i j).natAbs<=400:=by unfold Go.Proofs.entR;rw[ZvG (l:=r)];cases hi:r[i]? with|none=>simp|some row=>exact(h row (Zwn hi)).get j
theorem Zcn.col(h:Zcn r)(q:Int)(n:Nat):ZdB (Zcd r q) n:=fun i j _ _=>h.entR _ _
theorem ZpQ{f:Nat->Nat->Int} {n:Nat} (hn:n<=5)(hf:ZdB f n):(Z0 f n).natAbs<=32000000000000000:=by unfold Z0;have h2:=Zw8 n;have:=Zhy hn hf (2^n-1) (by omega) (2^n-1) (ZwO _);refine ZwP this ?_;have hp:=Ze3 n (Zwo.2 (by omega)) (2^n-1) (Zwo.2 (by omega));exact ZwP (Zw5 (by omega) (show pop n (2^n-1)<=5 by omega)) (by decide)
def Zec(r:List (List Int))(n0:Nat)(e:Ending)(w':World):Prop:=match Zb3 r with|none=>e=.returned (.tuple #[.slice none 0 0,.int .i64 0,.bool false])|some (l,den)=>∃v,e=.returned (.tuple #[v,.int .i64 den,.bool true])/\w'.ownsRow n0 3 1 v l.length (l.map (Value.int .i64))
theorem ZpR(A:Option Addr)(xs:List IR)(cp:Nat)(inst:Option Nat)(w:World)(hrows:Zcm w A xs)(hl:∀x∈xs,x.l.length=xs.length+1)(h1:1<=xs.length)(h5:xs.length<=5)(hs:Zcn (xs.map IR.l)):Calls prog 115 #[.slice A xs.length cp,.int .i64 (qOf inst)] w fun e w'=>e=.returned (.int .i64 (Zao (xs.map IR.l) inst))/\Below w.heap.size w w':=by have:=ZpM A xs cp xs.length (qOf inst) w hrows rfl hl h1 h5 (hs.col _ _);rw[ZhA]at this;unfold Zao;rw[Zv2];exact this
theorem Zkc(A:Option Addr)(xs:List IR)(cp:Nat)(w:World)(hrows:Zcm w A xs)(hl:∀x∈xs,x.l.length=xs.length+1)(h1:1<=xs.length)(h5:xs.length<=5)(hs:Zcn (xs.map IR.l)):Calls prog 104 #[.slice A xs.length cp] w fun e w'=>Zec (xs.map IR.l) w.heap.size e w'/\Below w.heap.size w w':=by
  have hD:=Zvc fun inst W (hb:Below w.heap.size w W)=>ZpR A xs cp inst W (hrows.below hb) hl h1 h5 hs;have hbd:=Zvc fun inst=>(by have:=ZpQ h5 (hs.col (qOf inst) xs.length);rw[ZhA]at this;unfold Zao;rw[Zv2];exact this:(Zao (xs.map IR.l) inst).natAbs<=32000000000000000);have hlen:(xs.map IR.l).length=xs.length:=Zv2 ..;obtain⟨N,hN⟩:∃N,xs.length=N:=⟨_,rfl⟩;obtain⟨r,hr⟩:∃r,xs.map IR.l=r:=⟨_,rfl⟩;rw[hN]at hD h5 h1 hlen |-;rw[hr]at hD hbd hlen |-;have hlen':=Zvc hlen;clear hrows hl hs hN hr hlen;have hD0:=Zvc fun W hb=>hD.out none W hb;have hb0:=hbd.out none;obtain⟨d0,hd0⟩:∃d,Zao r none=d:=⟨_,rfl⟩;rw[hd0]at hD0 hb0;have hd0':=Zvc hd0;by_cases hz:d0=0
  · subst hz;go_enter func104,ntmps104;go_wp2_with (go_at_call 115;refine(hD0.out _ (ZuK _ _)).mono ?_;rintro e w1 ⟨rfl,hb1⟩);refine bodyPost_ret (v:=.tuple #[.slice none 0 0,.int .i64 0,.bool false]) ?_ rfl ⟨?_,hb1⟩;· simp[results,results104,go_sem]
    · unfold Zec Zb3;rw[if_pos hd0'.out]
  · have hzb:(d0==0)=false:=by simpa using hz
    have hall:=Zvc (show Zb3 r=some ((List.range N).map fun i=>ZaZ d0*Zao r (some i),ZaZ d0*d0)from by unfold Zb3;rw[if_neg (by rw[hd0'.out];exact hz),hd0'.out,hlen'.out]);obtain⟨i0,hi,hz0,hz1,hz2⟩:=info_parts info3;clear hd0;by_cases hneg:d0<0
    · have hsg:ZaZ d0=-1:=by unfold ZaZ;rw[if_pos hneg]
      obtain⟨L,hL⟩:∃L:Nat->List Int,(fun k=>(List.range k).map fun i=>ZaZ d0*Zao r (some i))=L:=⟨_,rfl⟩;have hLk:∀k,((List.range k).map fun i=>ZaZ d0*Zao r (some i))=L k:=fun k=>by rw[<-hL]
      have hLs:∀k,L (k+1)=L k++[-1*Zao r (some k)]:=fun k=>by rw[<-hLk,<-hLk,Zwu,hsg];simp
      have hLl:∀k,(L k).length=k:=fun k=>by rw[<-hLk];simp
      have hL0:L 0=[]:=Zvw (hLl 0);have hLs':=Zvc hLs;have hLl':=Zvc hLl;rw[hLk]at hall;have hw1:IntKind.i64.wrap (-d0)=-d0:=Zva _ (by omega);clear hL hLk hLs hLl;go_enter func104,ntmps104;go_wp2_with (go_at_call 115;refine(hD0.out _ (ZuK _ _)).mono ?_;rintro e w1 ⟨rfl,hb1⟩);go_loopw [7,17] (fun v i wr=>∃k:Nat,k<=N/\i=.int .i64 k/\wr.ownsRow w.heap.size 3 1 v k ((L k).map (Value.int .i64))/\Below w.heap.size w wr)(fun _ i _=>N-(intOf i).toNat);case atStart=>exact⟨0,Zxa _,rfl,by rw[hL0];exact World.ownsRow_nil _ _ _ _,hb1⟩
      case round=>
        clear hb1;obtain⟨k,hk,rfl,hown,hbw⟩:=hrel;obtain⟨Av,cv,rfl⟩:=Zac hown;have hown':=Zvc hown;clear hown;by_cases hlt:k<N
        · have hkI:(k:Int)<(N:Int):=by omega
          have hDk:=Zvc fun W hb=>hD.out (some k) W hb;have hbk:=hbd.out (some k);have hq:Hid (qOf (some k)=(k:Int)):=rfl;have hs:=hLs'.out k;obtain⟨x,hx⟩:∃x,Zao r (some k)=x:=⟨_,rfl⟩;rw[hx]at hDk hbk hs;rw[hq.out]at hDk;have hw2:IntKind.i64.wrap (-x)=-x:=Zva _ (by omega);have hs':=Zvc (show L (k+1)=L k++[-x]from by rw[hs];simp);clear hx hs hq;go_wp2_with (first
            | (go_at_call 115;refine(hDk.out _ hbw).mono ?_;rintro e w2 ⟨rfl,hb2⟩;have hbw2:=via hbw hb2;have hown2:=Zvc (ZN hown'.out hb2))|(at_builtin;refine wpList_append_own _ rfl _ _ 28 rfl w.heap.size 3 i0 (.int .i64 0) 1 8 underlying28 hi hz0 hz1 hz2 rfl (by decide) _ _ _ rfl (hown2.out.alloc _) ⟨w2.heap.size,0,none⟩ 1 1 [.int .i64 (-x)] rfl rfl ?c1 ?c2 ?c3 ?c4 ?c5 ?_));case c1=>exact Zbq _ [.int .i64 (-x)] _ (by simp)
          case c2=>intro u hu;simp at hu;subst hu;rfl
          case c3=>unfold maxLen;omega
          case c4=>omega
          case c5=>have:=hbw2.size;simp;omega
          intro v' w3 hown3 hg3 _;have hbw3:Below w.heap.size w w3:=ZW (via hbw2 (ZC _ _)) hg3 fun b e=>(hown2.out.lt b e).1;have hown4:Hid (w3.ownsRow w.heap.size 3 1 v' (k+1) ((L (k+1)).map (Value.int .i64))):=Zvc (by rw[hs'.out,Zv9];exact hown3);clear hown3 hg3 hown2 hs' hbk hw2;go_wp2;go_roundw;case rel=>exact⟨k+1,by omega,by go_num,hown4.out,hbw3⟩
          case measure=>simp[intOf]<;>omega
        · obtain rfl:k=N:=by omega
          clear hlt;go_wp2;refine bodyPost_ret (v:=.tuple #[.slice Av k cv,.int .i64 (-d0),.bool true]) ?_ rfl ⟨?_,hbw⟩;· simp[results,results104,go_sem]
          · unfold Zec;rw[hall.out];exact⟨.slice Av k cv,by rw[hsg];simp,by rw[hLl'.out];exact hown'.out⟩
    · have hsg:ZaZ d0=1:=by unfold ZaZ;rw[if_neg hneg]
      obtain⟨L,hL⟩:∃L:Nat->List Int,(fun k=>(List.range k).map fun i=>ZaZ d0*Zao r (some i))=L:=⟨_,rfl⟩;have hLk:∀k,((List.range k).map fun i=>ZaZ d0*Zao r (some i))=L k:=fun k=>by rw[<-hL]
      have hLs:∀k,L (k+1)=L k++[1*Zao r (some k)]:=fun k=>by rw[<-hLk,<-hLk,Zwu,hsg];simp
      have hLl:∀k,(L k).length=k:=fun k=>by rw[<-hLk];simp
      have hL0:L 0=[]:=Zvw (hLl 0);have hLs':=Zvc hLs;have hLl':=Zvc hLl;rw[hLk]at hall;have hw1:IntKind.i64.wrap (d0)=d0:=Zva _ (by omega);clear hL hLk hLs hLl;go_enter func104,ntmps104;go_wp2_with (go_at_call 115;refine(hD0.out _ (ZuK _ _)).mono ?_;rintro e w1 ⟨rfl,hb1⟩);go_loopw [7,17] (fun v i wr=>∃k:Nat,k<=N/\i=.int .i64 k/\wr.ownsRow w.heap.size 3 1 v k ((L k).map (Value.int .i64))/\Below w.heap.size w wr)(fun _ i _=>N-(intOf i).toNat);case atStart=>exact⟨0,Zxa _,rfl,by rw[hL0];exact World.ownsRow_nil _ _ _ _,hb1⟩
      case round=>
        clear hb1;obtain⟨k,hk,rfl,hown,hbw⟩:=hrel;obtain⟨Av,cv,rfl⟩:=Zac hown;have hown':=Zvc hown;clear hown;by_cases hlt:k<N
        · have hkI:(k:Int)<(N:Int):=by omega
          have hDk:=Zvc fun W hb=>hD.out (some k) W hb;have hbk:=hbd.out (some k);have hq:Hid (qOf (some k)=(k:Int)):=rfl;have hs:=hLs'.out k;obtain⟨x,hx⟩:∃x,Zao r (some k)=x:=⟨_,rfl⟩;rw[hx]at hDk hbk hs;rw[hq.out]at hDk;have hw2:IntKind.i64.wrap (x)=x:=Zva _ (by omega);have hs':=Zvc (show L (k+1)=L k++[x]from by rw[hs];simp);clear hx hs hq;go_wp2_with (first
            | (go_at_call 115;refine(hDk.out _ hbw).mono ?_;rintro e w2 ⟨rfl,hb2⟩;have hbw2:=via hbw hb2;have hown2:=Zvc (ZN hown'.out hb2))|(at_builtin;refine wpList_append_own _ rfl _ _ 28 rfl w.heap.size 3 i0 (.int .i64 0) 1 8 underlying28 hi hz0 hz1 hz2 rfl (by decide) _ _ _ rfl (hown2.out.alloc _) ⟨w2.heap.size,0,none⟩ 1 1 [.int .i64 (x)] rfl rfl ?c1 ?c2 ?c3 ?c4 ?c5 ?_));case c1=>exact Zbq _ [.int .i64 (x)] _ (by simp)
          case c2=>intro u hu;simp at hu;subst hu;rfl
          case c3=>unfold maxLen;omega
          case c4=>omega
          case c5=>have:=hbw2.size;simp;omega
          intro v' w3 hown3 hg3 _;have hbw3:Below w.heap.size w w3:=ZW (via hbw2 (ZC _ _)) hg3 fun b e=>(hown2.out.lt b e).1;have hown4:Hid (w3.ownsRow w.heap.size 3 1 v' (k+1) ((L (k+1)).map (Value.int .i64))):=Zvc (by rw[hs'.out,Zv9];exact hown3);clear hown3 hg3 hown2 hs' hbk hw2;go_wp2;go_roundw;case rel=>exact⟨k+1,by omega,by go_num,hown4.out,hbw3⟩
          case measure=>simp[intOf]<;>omega
        · obtain rfl:k=N:=by omega
          clear hlt;go_wp2;refine bodyPost_ret (v:=.tuple #[.slice Av k cv,.int .i64 (d0),.bool true]) ?_ rfl ⟨?_,hbw⟩;· simp[results,results104,go_sem]
          · unfold Zec;rw[hall.out];exact⟨.slice Av k cv,by rw[hsg];simp,by rw[hLl'.out];exact hown'.out⟩
end Go.Proofs
namespace Go.Proofs
variable {n k:Nat} {l W ws:List Int} {den lev x g:Int} {es:List Ex}
def Zed:Nat->Nat|0=>1|n+1=>(n+1)*Zed n
theorem ZhB{f:Nat->Nat->Int} {M:List Int} {row set Z:Nat}:∀(c:Nat)(acc sg:Int),(sg=1∨sg=-1)->(∀j,j<c->(f row j).natAbs<=400)->(∀j,j<c->(set>>>j)%2=1->(M.getD (set-2^j) 0).natAbs<=Z)->(ZaD f M row set c acc sg).natAbs<=acc.natAbs+pop c set*(400*Z)
 |0,acc,_,_,_,_=>by unfold ZaD;omega|c+1,acc,sg,hs,hf,hM=>by
  unfold ZaD pop;have hsg:(-sg=1∨-sg=-1):=by omega
  split;·rename_i hb;have:=ZhB c acc sg hs (fun j hj=>hf j (by omega)) fun j hj=>hM j (by omega);rw[hb,ZwK];exact this
  ·rename_i hb;have hb1:(set>>>c)%2=1:=by omega
   have hfm:=Zbo (hf c (by omega)) (hM c (by omega) hb1);have h1:∀acc',acc'.natAbs<=acc.natAbs+400*Z->(ZaD f M row set c acc' (-sg)).natAbs<=acc.natAbs+(pop c set+1)*(400*Z):=fun acc' ha=>by have:=ZhB c acc' (-sg) hsg (fun j hj=>hf j (by omega)) fun j hj=>hM j (by omega);rw[ZwI];omega
   rw[hb1];refine h1 _ ?_;split;·omega
   ·rw[Int.mul_assoc];rcases hs with rfl|rfl<;>omega
theorem Zkd{f:Nat->Nat->Int} {n:Nat} (hn:n<=5)(hf:ZdB f n):∀s,s<2^n->∀k,k<=s->((dpM f n s).getD k 0).natAbs<=Zed (pop n k)*400^pop n k
 |0,_,k,hk=>by
  obtain rfl:k=0:=by omega
  have:∀m,pop m 0=0:=fun m=>by induction m with|zero=>rfl|succ m ih=>unfold pop;rw[ih];simp
  rw[this];simp[dpM,Zed]|s+1,hs,k,hk=>by
  have ih:=Zkd hn hf s (by omega);have hl:=ZcA f n s;unfold dpM;by_cases hks:k<=s;·rw[Zj8 (by omega)];exact ih k hks
  ·obtain rfl:k=s+1:=by omega
   rw[Zhx (by omega)];have hn6:n∈List.range 6:=Zwo.2 (by omega);have hsr:s+1∈List.range (2^n):=Zwo.2 hs;have hp1:=Zj7 n hn6 _ hsr (by omega);have hpn:=Ze3 n hn6 _ hsr;unfold Zb2;have:=ZhB (f:=f) (M:=dpM f n s) (row:=pop n (s+1)-1) (set:=s+1) (Z:=Zed (pop n (s+1)-1)*400^(pop n (s+1)-1)) n 0 1 (.inl rfl) (fun j hj=>hf _ _ (by omega) hj) fun j hj hb=>by obtain⟨e1,e2⟩:=Zhv n hn6 _ hsr j (Zwo.2 hj) hb;have h2:=Zw8 j;have:=ih (s+1-2^j) (by omega);rwa [show pop n (s+1-2^j)=pop n (s+1)-1 by omega]at this
   refine ZwP this ?_;obtain⟨p,hp⟩:∃p,pop n (s+1)=p+1:=⟨pop n (s+1)-1,by omega⟩;rw[hp];simp only[ZwJ,Int.natAbs_zero,Zw9,Nat.pow_succ,Zed];refine ZwN ?_;ac_rfl
theorem ZpS{f:Nat->Nat->Int} (hn:n<=5)(hf:ZdB f n):(Z0 f n).natAbs<=1228800000000000:=by
 unfold Z0;have h2:=Zw8 n;have:=Zkd hn hf (2^n-1) (by omega) (2^n-1) (ZwO _);refine ZwP this ?_;have hp:=Ze3 n (Zwo.2 (by omega)) (2^n-1) (Zwo.2 (by omega));have h5:pop n (2^n-1)<=5:=by omega
 generalize pop n (2^n-1)=p at h5;have:∀p,p<=5->Zed p*400^p<=1228800000000000:=by decide
 exact this p h5
theorem ZhC{r:List (List Int)} (h:Zb3 r=some (l,den))(h5:r.length<=5)(hs:Zcn r):l.length=r.length/\den.natAbs<=1228800000000000/\0<den/\Small 1228800000000000 l:=by
 have hb:∀inst,(Zao r inst).natAbs<=1228800000000000:=fun inst=>by have:=ZpS h5 (hs.col (qOf inst) r.length);rw[ZhA]at this;exact this
 have hsg:∀d x:Int,(ZaZ d*x).natAbs=x.natAbs:=fun d x=>by unfold ZaZ;split<;>omega
 unfold Zb3 at h;split at h;·cases h
 rename_i hd;obtain⟨rfl,rfl⟩:_/\_:=by simpa using h
 refine⟨by simp,by rw[hsg];exact hb _,?_,fun x hx=>?_⟩;·unfold ZaZ;split<;>omega
 ·obtain⟨i,-,rfl⟩:=Zwm.1 hx;rw[hsg];exact hb _
theorem ZO.at'{T:TypeId} {W:World} {B:Nat} (h:ZO T W B l):At 1 Zc W (some ⟨B,0,none⟩) l:=by intro k x hx;refine⟨B,0,rfl,h.size,fun j v hv=>?_⟩;cases j with|zero=>simp[Zc]at hv;subst hv;simpa using h.load hx|succ j=>simp[Zc]at hv
theorem Zke{l:List Int} {K:Nat} (hl:Small K l):∀(t:List Nat)(k:Nat)(W:List Int),Small K W->Small K (putW l k t W)
 |[],_,_,h=>h|i::t,k,W,h=>by
  unfold putW;refine Zke hl t (k+1) _ fun x hx=>?_;rcases List.mem_or_eq_of_mem_set hx with hx|rfl;·exact h x hx
  ·exact hl.get _
theorem Zkf(l:List Int):∀(t:List Nat)(k:Nat)(W:List Int)(i:Nat),putW l k (t++[i]) W=(putW l k t W).set i (l.getD (k+t.length+1) 0)|[],k,W,i=>rfl|j::t,k,W,i=>by simp only[Zvm,putW,Zv0];rw[Zkf l t (k+1) _ i,show k+1+t.length+1=k+(t.length+1)+1 by omega]
theorem ZpT(l:List Int) {t:List Nat} {i:Nat} (h:t[k]?=some i):putW l 0 (t.take (k+1)) W=(putW l 0 (t.take k) W).set i (l.getD (k+1) 0):=by have hk:k<t.length:=(ZvO.1 h).1;rw[ZwA,h];have:=Zkf l (t.take k) 0 W i;rwa [Zv5,ZwX (by omega),Zw9]at this
theorem ZpU(hk:k<n)(h:l.getD (k+1) 0<0):(List.range n).any (fun k=>l.getD (k+1) 0<0)=true:=by rw[Zvh];exact⟨k,Zwo.2 hk,by simpa using h⟩
theorem ZpV(h:∀k,k<n->¬(l.getD (k+1) 0<0)):(List.range n).any (fun k=>l.getD (k+1) 0<0)=false:=by rw[Zvg];intro k hk;simpa using h k (Zwo.1 hk)
theorem ZhD(es:List Ex)(den lev:Int)(W:List Int):∀(ws:List Int)(k0:Nat),Zc3 es den lev W k0 ws=true↔∀j,j<ws.length->lev<=ws.getD j 0*den+putsL es W (k0+j)
 |[],_=>by simp[Zc3]|w::ws,k0=>by
  unfold Zc3;rw[ZuM,decide_eq_true_eq,ZhD es den lev W ws (k0+1)];constructor;·rintro⟨h1,h2⟩ j hj;cases j with|zero=>simpa using h1|succ j=>have:=h2 j (by simpa using hj);rwa [show k0+1+j=k0+(j+1)by omega]at this
  ·intro h;refine⟨by simpa using h 0 (by simp),fun j hj=>?_⟩;have:=h (j+1) (by simpa using hj);rwa [show k0+(j+1)=k0+1+j by omega]at this
theorem ZpW{j:Nat} (hj:j<ws.length)(h:ws.getD j 0*den+putsL es W j<lev):Zc3 es den lev W 0 ws=false:=by rw[Bool.eq_false_iff];intro hh;have:=(ZhD es den lev W ws 0).1 hh j hj;rw[Zw9]at this;omega
theorem ZpX(h:∀j,j<ws.length->¬(ws.getD j 0*den+putsL es W j<lev)):Zc3 es den lev W 0 ws=true:=(ZhD es den lev W ws 0).2 fun j hj=>by have:=h j hj;rw[Zw9];omega
theorem Zkg(h0:0<g)(hd:g∣x):x.tdiv g=x / g/\(x / g).natAbs<=x.natAbs:=by
 obtain⟨y,rfl⟩:=hd;have hg:g≠0:=by omega
 rw[Int.mul_tdiv_cancel_left _ hg,Int.mul_ediv_cancel_left _ hg];refine⟨rfl,?_⟩;rw[Int.natAbs_mul];exact Nat.le_mul_of_pos_left _ (by omega)
theorem ZcB{K:Nat} (h0:0<g)(hd:g∣x)(hx:x.natAbs<=K)(hK:K<=9000000000000000000):IntKind.i64.wrap (x.tdiv g)=x / g:=by obtain⟨h1,h2⟩:=Zkg h0 hd;rw[h1];exact Zva _ (by omega)
theorem ZpY{w:World} {R base:Nat} (h:ZO 3 w R l)(hl:l.length=n)(hn:n<=1000)(hb:base<=R):w.ownsRow base 3 1 (.slice (some ⟨R,0,none⟩) n n) n (l.map (Value.int .i64)):=by refine⟨by simpa using hl,.inr ⟨R,n,_,rfl,hb,h,ZwO _,by unfold maxLen;omega,by rw[ZjZ];omega,?_⟩⟩;simp only[ZaP,Zw0,Zwy,List.toList_toArray];rw[ZwC (by simp;omega)]
theorem Zkh(h:k<W.length):(((W.take k).map (· / g))++W.drop k).set k (W.getD k 0 / g)=(W.take (k+1)).map (· / g)++W.drop (k+1):=by have hx:=ZvL h;rw[ZvG,hx,ZwA,hx,Zvs h,Zwx _ _ (by simp;omega),Zv9,Zvi];rw[show k-((W.take k).map (· / g)).length=0 from by simp;omega];rfl
theorem Zki(h:k<W.length):(((W.take k).map (· / g))++W.drop k)[k]?=some (W.getD k 0):=by rw[ZvI (by simp;omega)];simp[ZwX (Nat.le_of_lt h),ZvG,h]
end Go.Proofs
namespace Go.Proofs
open Tryz
open Go.RowKit
theorem Zkj(s:ByteArray)(w:World)(hs:s.size<=9223372036854775807):Calls prog 49 #[.string s] w fun e w'=>e=.returned (.bool (Zah s.data.toList))/\w=w':=by
  have hlen:Hid (s.data.toList.length=s.size):=by simp[Hid]
  by_cases h1:s.size<1
  · have i1:(s.size:Int)<1:=by omega
    have hv:Zah s.data.toList=false:=by unfold Zah;rw[hlen.out];simp;omega
    rw[hv];clear hv hlen;go_enter func49,ntmps49;go_wp2;go_ret;exact⟨rfl,rfl⟩
  · have i1:¬(s.size:Int)<1:=by omega
    by_cases h2:12<s.size
    · have i2:12<(s.size:Int):=by omega
      have hv:Zah s.data.toList=false:=by unfold Zah;rw[hlen.out];simp;omega
      rw[hv];clear hv hlen;go_enter func49,ntmps49;go_wp2;go_ret;exact⟨rfl,rfl⟩
    · have i2:¬12<(s.size:Int):=by omega
      go_enter func49,ntmps49;go_wp2;go_loop [3] (fun i=>∃k:Nat,k<=s.size/\i=.int .i64 k/\Hid (∀j,j<k->Zbz j ((s.data.toList.getD j 0).toNat:Int)=true))(fun i=>s.size-(intOf i).toNat);case atStart=>exact⟨0,Zxa _,rfl,fun j hj=>by omega⟩
      case round=>
        obtain⟨k,hk,rfl,hok⟩:=hrel;by_cases hlt:k<s.size
        · obtain⟨c,hc⟩:∃c:UInt8,s[k]'hlt=c:=⟨_,rfl⟩;have hc':Hid (s.data.toList.getD k 0=c):=by unfold Hid;rw[<-hc,ZvG,ZvL (by rw[hlen.out];exact hlt)];simp;rfl
          have hb0:(0:Int)<=(c.toNat:Int):=by omega
          by_cases h0:k=0
          · have hk0:((k:Int)==0)=true:=by simp[h0]
            have h0':=Zvc h0;clear h0;go_wp2;all_goals first
              |(exfalso;have:=h0'.out;simp at*;omega)
              | (go_round;case rel=>exact⟨k+1,by omega,by go_num,Zhj hok hc' (Zhl _ _ (by have:=h0'.out;simp at*;omega))⟩
                 case measure=>simp[intOf];omega)|(go_ret;exact⟨Zck (Zhk (k:=k) hlen hlt hc' (Zhm _ _ (by have:=h0'.out;simp at*;omega))).symm,rfl⟩)
          · have hk0:((k:Int)==0)=false:=by simp[h0]
            go_wp2;all_goals first
              |(exfalso;simp at*;omega)
              | (go_round;case rel=>exact⟨k+1,by omega,by go_num,Zhj hok hc' (Zhl _ _ (by simp at*;omega))⟩
                 case measure=>simp[intOf];omega)|(go_ret;exact⟨Zck (Zhk (k:=k) hlen hlt hc' (Zhm _ _ (by simp at*;omega))).symm,rfl⟩)
        · have hkk:k=s.size:=by omega
          subst hkk;have hcs:Zcz s.data.toList=true:=ZjT _ (fun j hj=>hok.out j (by rw[hlen.out]at hj;exact hj));have hv:Zah s.data.toList=true:=by unfold Zah;rw[hcs,hlen.out];simp;omega
          go_wp2;go_ret;exact⟨rfl,rfl⟩
def ZbI(lo hi m:Int):Int:=firstE [unl (ZX lo 0 m&&ZX hi 0 m) 2,unl (decide (lo<=hi)) 9]
end Go.Proofs
namespace Go.Proofs
open Go.RowKit
section
variable {P:Program} {ops:Array Oper}
def Zam(ops:Array Oper):Bool:=(List.range ops.size).all fun i=>match ops[i]? with|none=>true|some o=>((o.looksAt ops).all fun s=>(List.range ops.size).all fun j=>match ops[j]? with|none=>true| some oj => oj.dst != some s || (decide (j < i) && o.after.any fun e => Region.binds .any e && e.on == j)) && ((List.range ops.size).all fun j=>match ops[j]? with|none=>true| some oj => j == i || o.dst.isNone || oj.dst != o.dst) && (o.after.all fun e=>!Region.binds .any e||decide (e.on<i))
structure SlotsOk (ops:Array Oper):Prop where
 look:∀(i:Nat)(o:Oper)(s j:Nat)(oj:Oper),ops[i]?=some o->s∈o.looksAt ops->ops[j]?=some oj->oj.dst=some s->j<i/\∃e∈o.after,Region.binds .any e=true/\e.on=j
 dst:∀(i j:Nat)(o oj:Oper)(s:Nat),ops[i]?=some o->ops[j]?=some oj->o.dst=some s->oj.dst=some s->j=i
 after:∀(i:Nat)(o:Oper)(e:Edge),ops[i]?=some o->e∈o.after->Region.binds .any e=true->e.on<i
theorem Zan{i:Nat} {o:Oper} (h:ops[i]?=some o):i<ops.size:=(Zuo.1 h).1
theorem ZdD(h:Zam ops=true):SlotsOk ops:=by
 unfold Zam at h;simp only[Zve,Zwo]at h;refine⟨fun i o s j oj hi hs hj hd=>?_,fun i j o oj s hi hj hd hd'=>?_,fun i o e hi he hb=>?_⟩;·have h1:=h i (Zan hi);simp only[hi,ZuM,Zve,Zwo]at h1;have h2:=h1.1.1 s hs j (Zan hj);simp only[hj,hd,ZuV,ZuM,decide_eq_true_eq,bne_self_eq_false,ZuQ,false_or]at h2;obtain⟨h3,h4⟩:=h2;obtain⟨e,he,hb⟩:=Array.any_eq_true'.1 h4;simp only[ZuM,beq_iff_eq]at hb;exact⟨h3,e,he,hb⟩
 ·have h1:=h i (Zan hi);simp only[hi,ZuM,Zve,Zwo]at h1;have h2:=h1.1.2 j (Zan hj);simpa [hj,hd,hd'] using h2
 ·have h1:=h i (Zan hi);simp only[hi,ZuM]at h1;have h2:=Zub.1 h1.2 e he;simpa [hb] using h2
theorem ZpZ{a b:Act} (h1:a.defers=b.defers)(h2:∀s:Nat,a.tmps[s]?=b.tmps[s]?):a=b:=by obtain⟨t,d⟩:=a;obtain⟨t',d'⟩:=b;dsimp only at h1 h2;subst h1;have:t=t':=Zug h2;subst this;rfl
theorem Zp0{a b:Act} {x:Operand} (h:∀t:Nat,x=.tmp t->a.tmps[t]?=b.tmps[t]?):a.eval x=b.eval x:=by cases x with|tmp t=>have:=h t rfl;simp[Act.eval,this]|_=>rfl
theorem ZhE{o:Oper} {a b:Act} (hsel:∀cs b,o.op≠.select cs b)(h:∀s∈o.looksAt ops,a.tmps[s]?=b.tmps[s]?):execOp a.eval o=execOp b.eval o:=execOp_congr o hsel fun x hx=>Zp0 fun t ht=>h t (by subst ht;exact Zwg _ (List.mem_filterMap.2 ⟨.tmp t,by simpa using hx,rfl⟩))
theorem Zkk{o:Oper} {a b:Act} (h:∀s∈o.looksAt ops,a.tmps[s]?=b.tmps[s]?):Region.wanted o (yielded ops a.tmps)=Region.wanted o (yielded ops b.tmps):=by unfold Region.wanted;cases hg:o.guard with
 |none=>rfl|some gw=>
  obtain⟨g,want⟩:=gw;have hy:yielded ops a.tmps g=yielded ops b.tmps g:=by unfold yielded;cases ht:(ops[g]?).bind (·.dst)with
   |none=>rfl|some t=>have:=h t (by simp[Oper.looksAt,hg,ht]);simp[this]
  simp only[hy]
theorem ZhF{C:World->Prop} {o:Oper} {v:Value} {a b:Act} (hsel:∀cs b,o.op≠.select cs b)(h:∀s∈o.looksAt ops,a.tmps[s]?=b.tmps[s]?)(hy:YieldsIn P ops C o v a):YieldsIn P ops C o v b:=hy.of_same (ZhE hsel h).symm (Zkk h).symm
theorem Ze5{a:Act} {d:Option Tmp} {v:Value} {s:Nat} (h:d≠some s):(a.put d v).tmps[s]?=a.tmps[s]?:=by cases d with|none=>rfl|some d=>have hne:d≠s:=fun e=>h (by rw[e]);simp[Act.put,Zuw hne]
theorem Ze6{a:Act} {d:Option Tmp} {v:Value}:(a.put d v).tmps.size=a.tmps.size:=by cases d<;>simp[Act.put]
theorem ZfY{a:Act} {d:Option Tmp} {v:Value}:(a.put d v).defers=a.defers:=by cases d<;>rfl
theorem ZfZ{a:Act} {d:Nat} {v:Value} (h:d<a.tmps.size):(a.put (some d) v).tmps[d]?=some v:=by simp[Act.put,h]
theorem ZhG{a:Act} {d:Nat} {v:Value} (h:¬d<a.tmps.size):(a.put (some d) v).tmps[d]?=none:=by simp[Act.put];omega
theorem ZhH(H:SlotsOk ops)(hsel:∀(j:Nat)(o:Oper) cs b,ops[j]?=some o->o.op≠.select cs b) {C:World->Prop} {af:Act}:∀(l:List Oper)(k:Nat)(a:Act),(∀j,l[j]?=ops[k+j]?)->wpQuiet P ops C (fun a'=>a'=af) l a->(∀i o,k<=i->ops[i]?=some o->∃v,YieldsIn P ops C o v af/\∀d,o.dst=some d->d<af.tmps.size->af.tmps[d]?=some v)/\a.tmps.size=af.tmps.size/\a.defers=af.defers/\∀s,(∀j oj,k<=j->ops[j]?=some oj->oj.dst≠some s)->a.tmps[s]?=af.tmps[s]?
 |[],k,a,hl,h=>by have h':a=af:=h;subst h';refine⟨fun i o hi ho=>?_,rfl,rfl,fun s _=>rfl⟩;have:=hl (i-k);rw[show k+(i-k)=i by omega,ho]at this;simp at this|o::rest,k,a,hl,h=>by
  have h0:ops[k]?=some o:=by simpa using (hl 0).symm
  have hq:qOp P ops C k (wpQuiet P ops C (fun a'=>a'=af) rest) a:=by unfold qOp;simp only[h0];exact h
  obtain⟨v,hy,hK⟩:=yieldsIn_of_qOp h0 hq;obtain⟨i1,i2,i3,i4⟩:=ZhH H hsel rest (k+1) (a.put o.dst v) (fun j=>by have:=hl (j+1);rw[ZvJ]at this;rw[this];congr 1;omega) hK;have hag:∀s∈o.looksAt ops,a.tmps[s]?=af.tmps[s]?:=fun s hs=>by
   have hw:∀j oj,k<=j->ops[j]?=some oj->oj.dst≠some s:=fun j oj hj ho hd=>by have:=(H.look k o s j oj h0 hs ho hd).1;omega
   rw[<-i4 s (fun j oj hj=>hw j oj (by omega)),Ze5 (hw k o (ZwO _) h0)]
  refine⟨fun i o' hi ho=>?_,by rw[<-i2,Ze6],by rw[<-i3,ZfY],fun s hs=>?_⟩
  ·by_cases hik:i=k;·subst hik;obtain rfl:o=o':=Zxh (h0.symm.trans ho);refine⟨v,ZhF (hsel _ _ · · h0) hag hy,fun d hd hlt=>?_⟩;rw[<-i4 d (fun j oj hj hoj hdj=>by have:=H.dst i j o oj d h0 hoj hd hdj;omega),hd];exact ZfZ (by rw[<-Ze6 (a:=a) (d:=o.dst) (v:=v),i2];exact hlt)
   ·exact i1 i o' (by omega) ho
  ·rw[<-i4 s (fun j oj hj=>hs j oj (by omega)),Ze5 (hs k o (ZwO _) h0)]
def Zee(n:Nat)(listed:Array Bool):Nat:=((List.range n).filter fun j=>!listed.getD j true).length
theorem Zkl{α:Type} {p q:α->Bool}:∀(l:List α),(∀x,q x=true->p x=true)->(l.filter q).length<=(l.filter p).length
 |[],_=>ZwO _|x::l,h=>by
  have ih:=Zkl l h;simp only[List.filter_cons];by_cases hq:q x=true;·rw[if_pos hq,if_pos (h x hq)];simpa using ih
  ·rw[if_neg hq];split;·simp only[Zv0];omega
   ·exact ih
theorem Zkm{α:Type} {p q:α->Bool}:∀(l:List α),(∀x,q x=true->p x=true)->(∃x∈l,p x=true/\q x=false)->(l.filter q).length<(l.filter p).length
 |[],_,h=>by obtain⟨x,hx,_⟩:=h;cases hx|y::l,h,hx=>by
  obtain⟨x,hm,hp,hq⟩:=hx;simp only[List.filter_cons];rcases Zwi.1 hm with rfl|hm;·rw[if_neg (by rw[hq];decide),if_pos hp];have:=Zkl l h;simp only[Zv0];omega
  ·have ih:=Zkm l h ⟨x,hm,hp,hq⟩;by_cases hqy:q y=true;·rw[if_pos hqy,if_pos (h y hqy)];simpa using ih
   ·rw[if_neg hqy];split;·simp only[Zv0];omega
    ·exact ih
theorem Zf0{n i:Nat} {listed:Array Bool} (hi:i<n)(h:listed.getD i true=false):Zee n (listed.setIfInBounds i true)<Zee n listed:=by
 refine Zkm _ (fun j hj=>?_) ⟨i,Zwo.2 hi,by simp[h],?_⟩
 ·by_cases hij:i=j;·subst hij;simp[h]
  ·rw[getD_set_ne true hij]at hj;exact hj
 ·have:(listed.setIfInBounds i true).getD i true=true:=by simp only[Zuj,Zuv];by_cases hs:i<listed.size<;>simp[hs]
  rw[this];rfl
end
section
variable {P:Program} {ops:Array Oper}
def Zef(ops:Array Oper)(listed:Array Bool)(a b:Act):Prop:=a.tmps.size=b.tmps.size/\a.defers=b.defers/\∀s:Nat,(∀(j:Nat)(oj:Oper),ops[j]?=some oj->oj.dst=some s->listed.getD j true=true)->a.tmps[s]?=b.tmps[s]?
theorem ZdE{listed:Array Bool} {j:Nat} (h:listed.getD j false=true):listed.getD j true=true:=by
 rcases ZwT j listed.size with h'|h';·simp[h']at h |-;exact h
 ·simp[Zun h']at h
theorem Zkn(H:SlotsOk ops) {listed:Array Bool} {a b:Act} (h:Zef ops listed a b) {i:Nat} {o:Oper} (hi:ops[i]?=some o)(hr:i∈Region.ready .any ops listed):∀s∈o.looksAt ops,a.tmps[s]?=b.tmps[s]?:=fun s hs=>h.2.2 s fun j oj hj hd=>by obtain⟨_,e,he,hb,hon⟩:=H.look i o s j oj hi hs hj hd;obtain⟨_,o',ho',hall⟩:=mem_ready.1 hr;obtain rfl:o=o':=Zxh (hi.symm.trans ho');have:=hall e he hb;rw[hon]at this;exact ZdE this
theorem Zf1(H:SlotsOk ops) {listed:Array Bool} {a b:Act} (h:Zef ops listed a b) {i:Nat} {o:Oper} (hi:ops[i]?=some o) {v:Value} (hv:∀s,o.dst=some s->s<b.tmps.size->b.tmps[s]?=some v):Zef ops (listed.setIfInBounds i true) (a.put o.dst v) b:=by
 refine⟨by rw[Ze6];exact h.1,by rw[ZfY];exact h.2.1,fun s hs=>?_⟩;by_cases hd:o.dst=some s
 ·rw[hd];by_cases hlt:s<b.tmps.size;·rw[ZfZ (by rw[h.1];exact hlt),hv s hd hlt]
  ·rw[ZhG (by rw[h.1];exact hlt),Zun (by omega)]
 ·rw[Ze5 hd];refine h.2.2 s fun j oj hj hdj=>?_;have hij:i≠j:=by rintro rfl;obtain rfl:o=oj:=Zxh (hi.symm.trans hj);exact hd hdj
  have:=hs j oj hj hdj;rwa [getD_set_ne true hij]at this
def above(u:World):World->Prop:=fun x=>Below u.heap.size u x
def Before(ops:Array Oper)(w:World)(m k:Nat)(af:Act)(listed:Array Bool)(a:Act)(x:World):Prop:=listed.getD m true=false/\listed.getD k true=false/\Zef ops listed a af/\Below w.heap.size w x
theorem Zko{C:World->Prop} {Q:Exit->Act->World->Prop} {i:Nat} {o:Oper} {v:Value} {a:Act} {x:World} {K:Act->World->Prop} (hi:ops[i]?=some o)(hy:YieldsIn P ops C o v a)(hC:C x)(h:∀x',C x'->K (a.put o.dst v) x'):wpOp P ops Q i K a x:=wpOp_of_qOp (K:=fun a'=>a'=a.put o.dst v) hC (fun a' w' hw' he=>by subst he;exact h w' hw') (hy.qOp hi rfl)
theorem Zc5(H:SlotsOk ops) {listed:Array Bool} (hz:listed.size=ops.size)(h:Region.ready .any ops listed=[]):∀j,j<ops.size->listed.getD j true=true:=by intro j;induction j using Nat.strongRecOn with|_ j ih=>intro hj;cases hu:listed.getD j true with
  |true=>rfl|false=>exfalso;have:j∈Region.ready .any ops listed:=mem_ready.2 ⟨hu,ops[j],Zum hj,fun e he hb=>by
    have h1:=H.after j _ e (Zum hj) he hb;have h2:=ih e.on h1 (by omega);have h3:e.on<listed.size:=by omega
    simp[h3]at h2 |-;exact h2⟩;rw[h]at this;cases this
theorem Zkp{listed:Array Bool} {a b:Act} (h:Zef ops listed a b)(hu:∀j,j<ops.size->listed.getD j true=true):a=b:=ZpZ h.2.1 fun s=>h.2.2 s fun j oj hj _=>hu j (Zan hj)
end
theorem Zkq(u:World):above u=fun w'=>∃x:Grew u,w'=x.val:=by funext w';exact propext ⟨fun h=>⟨⟨w',h⟩,rfl⟩,fun⟨x,hx⟩=>by subst hx;exact x.ok⟩
theorem Zkr{w x:World} {a:Addr} (h:Below w.heap.size w x)(hB:w.heap.size<=a.block)(u:Value):Below w.heap.size w (x.setCell a u):=h.setCell hB u
section
variable {P:Program} {ops:Array Oper}
theorem Zf2{listed:Array Bool} (j:Nat):(listed.setIfInBounds j true).getD j true=true:=by simp only[Zuj,Zuv];by_cases hs:j<listed.size<;>simp[hs]
end
section
variable {P:Program} {ops:Array Oper}
def yieldsC(v:Value)(o:Oper):Oper:={o with op:=.move (.const v)}
end
section
variable {P:Program} {ops:Array Oper}
structure Gh where
 b:Nat
 a1:Option Addr
 a2:Option Addr
 a3:Option Addr
 c1:Nat
 c2:Nat
 c3:Nat
def Gh.zero:Gh:=⟨0,none,none,none,0,0,0⟩
def upd(g:Nat->Gh)(j:Nat)(h:Gh):Nat->Gh:=fun k=>if k=j then h else g k
def ZaT(L:Nat->Bool)(j:Nat):Nat->Bool:=fun k=>k==j||L k
def mixL(sp:List Nat)(mk:Nat->Gh->Value)(g:Nat->Gh):Nat->List Oper->List Oper|_,[]=>[]|i,o::l=>(if sp.contains i then yieldsC (mk i (g i)) o else o)::mixL sp mk g (i+1) l
theorem ZdF(sp:List Nat) (mk:Nat->Gh->Value) (g:Nat->Gh):∀(l:List Oper) (i j:Nat),(mixL sp mk g i l)[j]?=(l[j]?).map fun o=>if sp.contains (i+j)then yieldsC (mk (i+j) (g (i+j))) o else o|[],i,j=>by simp[mixL]|o::l,i,0=>by simp[mixL]|o::l,i,j+1=>by simp only[mixL,ZvJ];rw[ZdF sp mk g l (i+1) j];congr 2;funext o;rw[show i+1+j=i+(j+1)by omega]
def Zas(ops:Array Oper)(j:Nat):Nat->List Oper->List Nat->List Nat|_,[],acc=>acc|i,o::l,acc=>Zas ops j (i+1) l (if i==j||(o.looksAt ops).any acc.contains then (match o.dst with|some d=>d::acc|none=>acc)else acc)
theorem ZhI{j:Nat} {G:Nat->Prop} (hG:∀(i:Nat)(o:Oper)(d:Nat),ops[i]?=some o->o.dst=some d->(i=j∨∃s∈o.looksAt ops,G s)->G d):∀(l:List Oper)(i:Nat)(acc:List Nat),(∀k,l[k]?=ops[i+k]?)->(∀d∈acc,G d)->∀d∈Zas ops j i l acc,G d
 |[],i,acc,_,ha,d,hd=>ha d hd|o::l,i,acc,hl,ha,d,hd=>by
  unfold Zas at hd;refine ZhI hG l (i+1) _ (fun k=>by have:=hl (k+1);rw[ZvJ]at this;rw[this];congr 1;omega) ?_ d hd;intro d' hd';split at hd';·rename_i hc;cases hdst:o.dst with|none=>rw[hdst]at hd';exact ha d' hd'|some e=>
    rw[hdst]at hd';rcases Zwi.1 hd' with rfl|hm
    ·refine hG i o d' (by simpa using (hl 0).symm) hdst ?_;simp only[ZuV,beq_iff_eq,Zvh,List.contains_iff_mem]at hc;rcases hc with h|⟨s,h1,h2⟩;·exact .inl h
     ·exact .inr ⟨s,h1,ha s h2⟩
    ·exact ha d' hm
  ·exact ha d' hd'
def Zap(cs:List Nat):Nat->List Value->List Value|_,[]=>[]|i,v::l=>(if cs.contains i then undef else v)::Zap cs (i+1) l
theorem Zks(cs:List Nat):∀(l:List Value)(i s:Nat),(Zap cs i l)[s]?=(l[s]?).map fun v=>if cs.contains (i+s)then undef else v|[],i,s=>by simp[Zap]|v::l,i,0=>by simp[Zap]|v::l,i,s+1=>by simp only[Zap,ZvJ];rw[Zks cs l (i+1) s];congr 2;funext v;rw[show i+1+s=i+(s+1)by omega]
theorem Zkt{cs:List Nat} {t t':Array Value} (h:Zap cs 0 t.toList=Zap cs 0 t'.toList) {s:Nat} (hs:s∉cs):t[s]?=t'[s]?:=by
 have:=congrArg (fun l=>l[s]?) h;simp only[Zks,Zw9]at this;have hc:cs.contains s=false:=by simpa using hs
 rw[hc]at this;simpa using this
def ZbU(P:Program)(K:Value->World->Prop):Result Next->Prop|.ok (.value v) x=>K v x|.ok .skip x=>K undef x|.ok (.enter f args) x=>Calls P f args x fun e x'=>∃v,e=.returned v/\K v x'|_=>False
theorem Zku{o:Oper} {a:Act} {x:World} {K:Value->World->Prop} {N:Act->World->Prop} {Q:Exit->Act->World->Prop} (h:ZbU P K ((execOp a.eval o).run P x))(hN:∀v x',K v x'->N (a.put o.dst v) x'):o.wp P a x N Q:=by unfold Oper.wp;cases hr:(execOp a.eval o).run P x with
 |ok n x'=>rw[hr]at h;cases n with
  |value v=>exact hN _ _ h|skip=>exact hN _ _ h|enter f args=>rw[Oper.upon_enter];refine Calls.mono h ?_;rintro e x'' ⟨v,rfl,hk⟩;exact hN _ _ hk|_=>exact h.elim
 |_=>rw[hr]at h;exact h.elim
theorem Zax{K:Value->World->Prop} {r:Result Next} {v:Value} {x:World} (hr:r=.ok (.value v) x)(h:K v x):ZbU P K r:=by subst hr;exact h
theorem ZcC{K:Value->World->Prop} {r:Result Next} {x:World} (hr:r=.ok .skip x)(h:K undef x):ZbU P K r:=by subst hr;exact h
theorem ZaU{K:Value->World->Prop} {r:Result Next} {x:World} {f:FuncId} {args:Array Value} (hr:r=.ok (.enter f args) x)(h:Calls P f args x fun e x'=>∃v,e=.returned v/\K v x'):ZbU P K r:=by subst hr;exact h
def spB(ops:Array Oper)(sp:List Nat):Bool:=sp.all fun j=>match ops[j]? with|some o=>o.guard.isNone|none=>false
def Zc6(ops:Array Oper)(C:World->Prop)(J:(Nat->Bool)->(Nat->Gh)->World->Prop)(af:(Nat->Gh)->Act)(listed:Array Bool)(a:Act)(x:World):Prop:=C x/\(∀(i:Nat)(o:Oper),ops[i]?=some o->listed.getD i true=true->∀e∈o.after,Region.binds .any e=true->listed.getD e.on true=true)/\∃g,Zef ops listed a (af g)/\J (fun j=>listed.getD j true) g x
theorem Zkv(listed:Array Bool)(i:Nat):(fun j=>(listed.setIfInBounds i true).getD j true)=ZaT (fun j=>listed.getD j true) i:=funext fun j=>by
 unfold ZaT;by_cases hij:i=j;·subst hij;rw[Zf2,BEq.rfl,ZuZ]
 ·rw[getD_set_ne true hij];have:(j==i)=false:=by simpa using fun e=>hij e.symm
  rw[this,ZuR]
end
end Go.Proofs
namespace Go.Proofs
open Go.RowKit
structure OnlyB (b:Nat)(x x':World):Prop where
 below:∀n,n<=b->Below n x x'
 other:∀k,k≠b->x'.heap[k]?=x.heap[k]?
theorem OnlyB.refl(b:Nat)(x:World):OnlyB b x x:=⟨fun n _=>ZuK n x,fun _ _=>rfl⟩
theorem OnlyB.set{b:Nat} {x x':World} (h:OnlyB b x x')(o:Nat)(u:Value):OnlyB b x (x'.setCell ⟨b,o,none⟩ u):=⟨fun n hn=>(h.below n hn).setCell hn u,fun k hk=>(ZuJ x' ⟨b,o,none⟩ u k hk).trans (h.other k hk)⟩
theorem OnlyB.keep{b:Nat} {x x':World} (h:OnlyB b x x') {k:Nat} {o:Obj} (hk:k≠b)(hx:x.heap[k]?=some o):x'.heap[k]?=some o:=(h.other k hk).trans hx
theorem ZJ{L:Nat->Bool} {j k:Nat} (h:k≠j):ZaT L j k=L k:=by
 unfold ZaT;have:(k==j)=false:=by simpa using h
 rw[this,ZuR]
theorem Za0{L:Nat->Bool} {j:Nat}:ZaT L j j=true:=by simp[ZaT]
theorem upd_ne{g:Nat->Gh} {j k:Nat} {h:Gh} (hk:k≠j):upd g j h k=g k:=by unfold upd;rw[if_neg hk]
theorem Zad{g:Nat->Gh} {j:Nat} {h:Gh}:upd g j h j=h:=by unfold upd;rw[if_pos rfl]
section
variable {P:Program}
end
theorem Ze8{P:Program} {f:Operand->Value} {o:Oper} {t ty:TypeId} {p q:Operand} {b:Nat} {v0 v1 u0 u1:Value} {x:World} (ho:o.op=.store t p q)(h0:v0.oneCell'=true)(h1:v1.oneCell'=true)(hsz:Sem.run P (sizeOf t) x=.ok 2 x)(hp:f p=.pointer (some ⟨b,0,none⟩))(hq:f q=.agg #[v0,v1])(hz:x.heap[b]?=some (.cells #[u0,u1] ty (0,0))):(execOp f o).run P x=.ok .skip ((x.setCell ⟨b,0,none⟩ v0).setCell ⟨b,1,none⟩ v1):=by have Cz:=bk2 hz;unfold execOp;rw[ho];simp[go_sem,hp,hq,Cz,hsz,run_store _ _ _ v0 _ h0,run_store _ _ _ v1 _ h1]
theorem ZdG{P:Program} {f:Operand->Value} {o:Oper} {t ty:TypeId} {p q:Operand} {b:Nat} {v0 v1 v2 u0 u1 u2:Value} {x:World} (ho:o.op=.store t p q)(h0:v0.oneCell'=true)(h1:v1.oneCell'=true)(h2:v2.oneCell'=true)(hsz:Sem.run P (sizeOf t) x=.ok 3 x)(hp:f p=.pointer (some ⟨b,0,none⟩))(hq:f q=.agg #[v0,v1,v2])(hz:x.heap[b]?=some (.cells #[u0,u1,u2] ty (0,0))):(execOp f o).run P x=.ok .skip (((x.setCell ⟨b,0,none⟩ v0).setCell ⟨b,1,none⟩ v1).setCell ⟨b,2,none⟩ v2):=by have Cz:=bk3 hz;unfold execOp;rw[ho];simp[go_sem,hp,hq,Cz,hsz,run_store _ _ _ v0 _ h0,run_store _ _ _ v1 _ h1,run_store _ _ _ v2 _ h2]
end Go.Proofs
namespace Go.Proofs
open Go.RowKit
section
variable {P:Program}
end
theorem Zp1{w x x':World} {row:Option Nat} (h:Below w.heap.size w x)(hg:x.grownBy x' row)(hr:∀b,row=some b->w.heap.size<=b):Below w.heap.size w x':=h.grown hg h.size hr
section
variable {P:Program}
theorem Zp2(v:Value) (hv:v.oneCell'=true) (x:World) (b o:Nat) (u:Value) (hc:x.cell? ⟨b,o,none⟩=some u) (hf:x.frozen? ⟨b,o,none⟩=false):(store ⟨b,o,none⟩ v).run P x=.ok () (x.setCell ⟨b,o,none⟩ v):=by cases v<;>first|(simp[Value.oneCell']at hv;done)|simp[store,Sem.run,hc,hf]
theorem ZhJ(b:Nat)(T:TypeId):∀(vs:List Value)(i:Nat)(cs:List Value)(x:World),x.heap[b]?=some (.cells cs.toArray T (0,0))->i+vs.length<=cs.length->(∀u∈vs,u.oneCell'=true)->∃x',(storeCells ⟨b,0,none⟩ vs i).run P x=.ok () x'/\x'.heap[b]?=some (.cells (cs.take i++vs++cs.drop (i+vs.length)).toArray T (0,0))/\x.grownBy x' (some b)/\x'.heap.size=x.heap.size
 |[],i,cs,x,hx,_,_=>⟨x,by simp[storeCells,Sem.run,pure],by simpa using hx,⟨rfl,rfl,rfl,ZwO _,fun _ _ _=>rfl⟩,rfl⟩|v::vs,i,cs,x,hx,hl,h1=>by
  simp only[Zv0]at hl;have hc:x.cell? ⟨b,i,none⟩=some (cs[i]'(by omega)):=by unfold World.cell?;simp only[hx];simp[ZvL (show i<cs.length by omega)]
  have hf:x.frozen? ⟨b,i,none⟩=false:=by unfold World.frozen?;simp only[hx];simp
  have hs:=Zp2 (P:=P) v (h1 v (by simp)) x b i _ hc hf;have hx2:(x.setCell ⟨b,i,none⟩ v).heap[b]?=some (.cells (cs.set i v).toArray T (0,0)):=ZH hx v (by simp);obtain⟨x',r1,r2,r3,r4⟩:=ZhJ b T vs (i+1) (cs.set i v) _ hx2 (by simp;omega) fun u hu=>h1 u (by simp[hu]);refine⟨x',?_,?_,?_,by rw[r4];simp⟩
  ·unfold storeCells;have e:(⟨b,0,none⟩:Addr).add i=⟨b,i,none⟩:=by unfold Addr.add;split<;>simp_all
   rw[e];simp only[Sem.run_bind,hs,Result.andThen_ok];exact r1
  ·rw[r2];congr 2;apply congrArg;have e1:(cs.set i v).take (i+1)=cs.take i++[v]:=by rw[ZwA,List.getElem?_set_self (by omega),List.take_set];rw[List.set_eq_of_length_le (by simp[Nat.min_le_left])];rfl
   have e2:(cs.set i v).drop (i+1+vs.length)=cs.drop (i+1+vs.length):=by rw[List.drop_set_of_lt (by omega)]
   rw[e1,e2];simp only[Zv0,Zvi,Zvm,Zwr];congr 4;omega
  ·exact World.grownBy.trans (b:=x.setCell ⟨b,i,none⟩ v) ⟨rfl,rfl,rfl,by simp,fun k hk hne=>ZuJ x ⟨b,i,none⟩ v k fun e=>hne (by rw[e])⟩ r3
theorem ZhK(b:Nat)(T:TypeId)(cs:List Value)(x:World)(hx:x.heap[b]?=some (.cells cs.toArray T (0,0))):∀(n i:Nat)(acc:Array Value),i+n<=cs.length->(loadCellsFrom ⟨b,0,none⟩ i n acc).run P x=.ok (acc++((cs.drop i).take n).toArray) x
 |0,i,acc,_=>by simp[loadCellsFrom,Sem.run,pure]|n+1,i,acc,h=>by
  have hc:x.cell? ⟨b,i,none⟩=some (cs[i]'(by omega)):=by unfold World.cell?;simp only[hx];simp[ZvL (show i<cs.length by omega)]
  unfold loadCellsFrom;have e:(⟨b,0,none⟩:Addr).add i=⟨b,i,none⟩:=by unfold Addr.add;split<;>simp_all
  rw[e];have hl:(load ⟨b,i,none⟩).run P x=.ok (cs[i]'(by omega)) x:=by simp[load,Sem.run,hc]
  simp only[Sem.run_bind,hl,Result.andThen_ok];rw[ZhK b T cs x hx n (i+1) _ (by omega)];rw[Zvs (show i<cs.length by omega),ZwD];simp
variable {ops:Array Oper} {rest:List Oper} {o:Oper} {a:Act} {Q:Exit->Act->World->Prop}
theorem ZaV{w:World} (hgd:o.guard=none)(p q:Operand)(t:TypeId)(ho:o.op=.store t p q)(b:Nat)(vs cs:List Value)(T:TypeId)(hp:a.eval p=.pointer (some ⟨b,0,none⟩))(hq:a.eval q=.agg vs.toArray)(hsz:(sizeOf t).run P w=.ok vs.length w)(hb:w.heap[b]?=some (.cells cs.toArray T (0,0)))(hl:cs.length=vs.length)(h1:∀u∈vs,u.oneCell'=true)(h:∀w',w'.heap[b]?=some (.cells vs.toArray T (0,0))->w.grownBy w' (some b)->w'.heap.size=w.heap.size->wpList P ops Q rest (a.put o.dst undef) w'):wpList P ops Q (o::rest) a w:=by
 obtain⟨x',r1,r2,r3,r4⟩:=ZhJ (P:=P) b T vs 0 cs w hb (by omega) h1;refine wpList_plain hgd fun K hK=>?_;unfold Oper.wp execOp;have e2:(storeVar t ⟨b,0,none⟩ (.agg vs.toArray)).run P w=.ok () x':=by unfold storeVar;simp only[Sem.run_bind,hsz,Result.andThen_ok,Value.cells,Zwy,ne_eq,not_true_eq_false,if_false];exact r1
 simp only[ho,Instr.storeAt,Instr.sureAddr,hp,hq,Sem.run_bind,Sem.run_pure,Result.andThen_ok,e2];refine hK _ _ (h x' ?_ r3 r4);rw[r2];congr 2;apply congrArg;simp[hl]
theorem Z5{w:World} {t:TypeId} {b:Nat} {cs:List Value} {T:TypeId} (hag:(isAgg t).run P w=.ok true w)(hsz:(sizeOf t).run P w=.ok cs.length w)(hb:w.heap[b]?=some (.cells cs.toArray T (0,0))):(loadVar t ⟨b,0,none⟩).run P w=.ok (.agg cs.toArray) w:=by unfold loadVar loadCells;simp only[Sem.run_bind,hag,hsz,Result.andThen_ok,if_true];rw[ZhK b T cs w hb cs.length 0 #[] (by omega)];simp[Sem.run,pure]
theorem Zeg{w:World} (hgd:o.guard=none)(p:Operand)(t:TypeId)(ho:o.op=.load t p)(b:Nat)(cs:List Value)(T:TypeId)(hp:a.eval p=.pointer (some ⟨b,0,none⟩))(hag:(isAgg t).run P w=.ok true w)(hsz:(sizeOf t).run P w=.ok cs.length w)(hb:w.heap[b]?=some (.cells cs.toArray T (0,0)))(h:wpList P ops Q rest (a.put o.dst (.agg cs.toArray)) w):wpList P ops Q (o::rest) a w:=by
 refine wpList_plain hgd fun K hK=>?_;unfold Oper.wp execOp;have e2:(loadVar t ⟨b,0,none⟩).run P w=.ok (.agg cs.toArray) w:=by unfold loadVar loadCells;simp only[Sem.run_bind,hag,hsz,Result.andThen_ok,if_true];rw[ZhK b T cs w hb cs.length 0 #[] (by omega)];simp[Sem.run,pure]
 simp only[ho,Instr.loadAt,Instr.sureAddr,hp,Sem.run_bind,Sem.run_pure,Result.andThen_ok,e2];exact hK _ _ h
theorem ZhL(ad:Addr)(w:World):(asAddr (.pointer (some ad))).run P w=.ok ad w:=rfl
theorem Zc7{fn:Func} {p:Tmp} {ty:TypeId} (h:fn.results=#[.cell p ty]) {tmps:Array Value} {w:World} {ad:Addr} {v:Value} (ht:tmps.getD p undef=.pointer (some ad))(hl:(loadVar ty ad).run P w=.ok v w):(results fn tmps).run P w=.ok v w:=by unfold results;rw[h];simp only[List.mapM_toArray,Zv6,Zv7,ht,Sem.run_bind,Sem.run_pure,ZhL,Result.andThen_ok,hl,bind_assoc,pure_bind,map_eq_pure_bind];rfl
theorem Zat{fn:Func} {p u:Tmp} {ty:TypeId} (h:fn.results=#[.cell p ty,.tmp u]) {tmps:Array Value} {w:World} {ad:Addr} {v:Value} (ht:tmps.getD p undef=.pointer (some ad))(hl:(loadVar ty ad).run P w=.ok v w):(results fn tmps).run P w=.ok (.tuple #[v,tmps.getD u undef]) w:=by unfold results;rw[h];simp only[List.mapM_toArray,Zv6,Zv7,ht,Sem.run_bind,Sem.run_pure,ZhL,Result.andThen_ok,hl,bind_assoc,pure_bind,map_eq_pure_bind];rfl
end
end Go.Proofs
namespace Go.Proofs
open Tryz
open Go.RowKit
def Zbf(n m:Int):Bool:=ZX n (-m) m
theorem ZhM(n m:Int)(w:World)(hm:m.natAbs<=9000000000000000000):Calls prog 74 #[.int .i64 n,.int .i64 m] w fun e w'=>e=.returned (.bool (Zbf n m))/\w=w':=by have hw1:IntKind.i64.wrap (-m)=-m:=Zva _ (by omega);go_enter func74,ntmps74;go_wp2_with (go_at_call 42;refine(ZbG _ _ _ _).mono ?_;rintro e w' ⟨rfl,rfl⟩);go_ret;exact⟨rfl,rfl⟩
theorem Zkw(n b:Int)(w:World)(hb:0<b)(hn:n.natAbs<=9000000000000000000):Calls prog 90 #[.int .i64 n,.int .i64 b] w fun e w'=>e=.returned (.int .i64 (n / b))/\w=w':=by
 have hbn:¬b=0:=by omega
 have hbb:(b==0)=false:=by simpa using hbn
 have hq:(n.tdiv b).natAbs<=n.natAbs:=by rw[Int.natAbs_tdiv];exact Nat.div_le_self _ _
 have hw1:IntKind.i64.wrap (n.tdiv b)=n.tdiv b:=Zva _ (by omega);by_cases h:n.tmod b<0;·have hw2:IntKind.i64.wrap (n.tdiv b-1)=n.tdiv b-1:=Zva _ (by omega);go_enter func90,ntmps90;go_wp2;go_ret;exact⟨Zbn (ZoY n b hb h),rfl⟩
 ·go_enter func90,ntmps90;go_wp2;go_ret;exact⟨Zbn (ZoZ n b hb (by omega)),rfl⟩
def ZS(n b:Int):Int:=(gcdL 0 [n,b]:Int)
theorem Zkx(n b:Int)(hb:0<b):0<ZS n b/\ZS n b∣n/\ZS n b∣b:=by have h1:=Ze0 (l:=[n,b]) (g:=0) b (by simp) (by omega);have h2:=(ZdA [n,b] 0).2;exact⟨by unfold ZS;omega,h2 n (by simp),h2 b (by simp)⟩
theorem ZhN(n b:Int)(w:World)(hb:0<b)(hn:n.natAbs<=1000000000000000000)(hb2:b.natAbs<=1000000000000000000):Calls prog 53 #[.int .i64 n,.int .i64 b] w fun e w'=>e=.returned (.agg #[.int .i64 (n / ZS n b),.int .i64 (b / ZS n b)])/\Below w.heap.size w w':=by
 obtain⟨g0,g1,g2⟩:=Zkx n b hb;have hw1:IntKind.i64.wrap (n.tdiv (ZS n b))=n / ZS n b:=ZcB g0 g1 hn (by decide);have hw2:IntKind.i64.wrap (b.tdiv (ZS n b))=b / ZS n b:=ZcB g0 g2 hb2 (by decide);have hD:=Zvc (by have h0:=(ZO.new (T:=3) (w.alloc (.cells #[.int .i64 0,.int .i64 0] 46 (0,0))) [n,b]).at';simp only[World.size_alloc]at h0;exact Zhu (some ⟨w.heap.size+1,0,none⟩) [n,b] 2 ((w.alloc (.cells #[.int .i64 0,.int .i64 0] 46 (0,0))).alloc (.cells #[.int .i64 n,.int .i64 b] 3 (0,0))) h0 (by simp) (by intro x hx;simp only[Zwi,Zwt,or_false]at hx;rcases hx with rfl|rfl<;>omega):Calls prog 80 #[.slice (some ⟨w.heap.size+1,0,none⟩) 2 2] ((w.alloc (.cells #[.int .i64 0,.int .i64 0] 46 (0,0))).alloc (.cells #[.int .i64 n,.int .i64 b] 3 (0,0))) fun e w'=>e=.returned (.int .i64 (gcdL 0 [n,b]:Nat))/\Below ((w.alloc (.cells #[.int .i64 0,.int .i64 0] 46 (0,0))).alloc (.cells #[.int .i64 n,.int .i64 b] 3 (0,0))).heap.size ((w.alloc (.cells #[.int .i64 0,.int .i64 0] 46 (0,0))).alloc (.cells #[.int .i64 n,.int .i64 b] 3 (0,0))) w');obtain⟨g,hg⟩:∃g,ZS n b=g:=⟨_,rfl⟩;have hg':((gcdL 0 [n,b]:Nat):Int)=g:=hg;rw[hg']at hD;rw[hg]at g0 hw1 hw2 |-;have hgn:¬g=0:=by omega
 have hgb:(g==0)=false:=by simpa using hgn
 clear hg hg' g1 g2;go_enter func53,ntmps53;go_wp2_with (go_at_call 80;refine hD.out.mono ?_;rintro e w2 ⟨rfl,hb2'⟩);have M0:=Zw hb2' (by(repeat (first|assumption|(refine Zz _ _ ?_;(simp;done))|refine ZB ?_|refine Zy ?_ _|refine ZA ?_ (by simp<;>omega) _)):((w.alloc (.cells #[.int .i64 0,.int .i64 0] 46 (0,0))).alloc (.cells #[.int .i64 n,.int .i64 b] 3 (0,0))).heap[w.heap.size]?=some (.cells #[.int .i64 0,.int .i64 0] 46 (0,0)));have hbw:Below w.heap.size w w2:=via (by go_grown) hb2';clear hb2';refine Zav w 7 (by kernel_rfl) (by kernel_rfl) (by go_grown) ?_;intro hgc hbx;simp only[ZwD,ZwF,Zvt,Zvu];repeat (go_big_quiet_step (fail))
 refine wpQuiet_nil ?_;intro wb hb_wb hw_wb hs_wb;clear hgc hbx;have M1:=Zw hb_wb M0;have C1:=bk2 M1;go_wp2;refine bodyPost_ret (v:=.agg #[.int .i64 (n / g),.int .i64 (b / g)]) ?_ rfl ⟨rfl,?_⟩;·exact Zc7 (p:=4) (ad:=⟨w.heap.size,0,none⟩) rfl (by rfl) (Z5 (T:=46) (cs:=[.int .i64 (n / g),.int .i64 (b / g)]) (by kernel_rfl) (by kernel_rfl) (ZH (ZH M1 _ rfl) _ rfl))
 ·go_grown
theorem Zp3(k ag n d v:Int)(w:World)(hn:n.natAbs<=1000000000000000)(hd:d.natAbs<=1000000000000000)(hv:v.natAbs<=1000):Calls prog 45 #[.agg #[.int .i64 k,.int .i64 ag],.agg #[.int .i64 n,.int .i64 d],.int .i64 v] w fun e w'=>e=.returned (.bool (if k=1 then decide (n*1000<v*d)else decide (n<v*d)))/\Below w.heap.size w w':=by
 have hm:=Zbo hv hd;obtain⟨y,hy⟩:∃y,v*d=y:=⟨_,rfl⟩;rw[hy]at hm;have hw1:IntKind.i64.wrap (v*d)=y:=by rw[hy];exact Zva _ (by omega)
 have hw2:IntKind.i64.wrap (n*1000)=n*1000:=Zva _ (by omega);rw[hy];clear hy hm;by_cases hk:k=1;·subst hk;go_enter func45,ntmps45;go_wp2;go_ret;exact⟨Zck (by simp),by go_grown⟩
 ·have hkb:(k==1)=false:=by simpa using hk
  go_enter func45,ntmps45;go_wp2;go_ret;exact⟨Zck (by simp[hk]),by go_grown⟩
def ZaK(k ag:Int):Int:=firstE [unl (ZX k 0 1) 15,unl (ZX ag 0 400) 2]
theorem ZhO(k ag:Int)(w:World):Calls prog 41 #[.agg #[.int .i64 k,.int .i64 ag]] w fun e w'=>e=.returned (.int .i64 (ZaK k ag))/\Below w.heap.size w w':=by
 unfold ZaK;obtain⟨b1,h1⟩:∃b,ZX k 0 1=b:=⟨_,rfl⟩;obtain⟨b2,h2⟩:∃b,ZX ag 0 400=b:=⟨_,rfl⟩;have hW1:=Zvc fun W=>ZbG k 0 1 W;have hW2:=Zvc fun W=>ZbG ag 0 400 W;rw[h1]at hW1 |-;rw[h2]at hW2 |-;clear h1 h2;go_enter func41,ntmps41;go_wp2;refine Zba ?_;intro w1 hw1;have hb1:Below w.heap.size w w1:=by rw[hw1];go_grown
 have M0:w1.heap[w.heap.size]?=some (.cells #[.int .i64 k,.int .i64 ag] 27 (0,0)):=by rw[hw1];(repeat (first|assumption|(refine Zz _ _ ?_;(simp;done))|refine ZB ?_|refine Zy ?_ _|refine ZA ?_ (by simp<;>omega) _))
 have D:=bk2 M0;clear hw1;refine Zav w 8 (by kernel_rfl) (by kernel_rfl) hb1 ?_;intro hgc hbx;simp only[ZwD,ZwF,Zvt,Zvu];repeat (go_big_quiet_step (first
  |(go_at_call 42;first|with_reducible exact Zd (hW1.out _)|with_reducible exact Zd (hW2.out _))|(go_at_call 39;with_reducible exact Zd (Zbd _ _ _))))
 refine wpQuiet_nil ?_;intro wb hb_wb hw_wb hs_wb;clear hgc hbx;go_wp2_with (go_at_call 37;refine(Zc1 _ _ _).mono ?_;rintro e w' ⟨rfl,rfl⟩);go_ret;exact⟨rfl,by go_grown⟩
theorem Zp4(A:Option Addr)(l:List Pa)(c:Nat)(B:Nat)(f:Pa->Bool)(w:World)(hl:l.length<=1000000)(hat:At 5 Pa.cs w A l)(hC:∀y∈l,∀W,Below w.heap.size w W->Calls prog 97 (#[.agg #[.string y.nm,.int .i64 y.a0,.int .i64 y.a1,.int .i64 y.c0,.int .i64 y.c1]]++#[.pointer (some ⟨B,0,none⟩)]) W fun e w'=>e=.returned (.bool (f y))/\Below W.heap.size W w'):Calls prog 114 #[.slice A l.length c,.func (.func 97) #[] #[.pointer (some ⟨B,0,none⟩)]] w fun e w'=>(∃r:Int,e=.returned (.int .i64 r)/\decide (0<=r)=l.any f)/\Below w.heap.size w w':=by
 have hC':=Zvc hC;have hat':=Zvc hat;obtain⟨n,hn⟩:∃n,l.length=n:=⟨_,rfl⟩;have hn':=Zvc hn;rw[hn]at hl |-;clear hat hC hn;go_enter func114,ntmps114;go_wp2_with fail;go_loopw [8] (fun i wr=>∃k:Nat,k<=n/\i=.int .i64 k/\Hid (((l.take k).any f)=false)/\Below w.heap.size w wr)(fun i _=>n-(intOf i).toNat);case atStart=>exact⟨0,Zxa _,rfl,rfl,ZuK _ _⟩
 case round=>
  obtain⟨k,hk,rfl,hno,hbw⟩:=hrel;by_cases hlt:k<n
  ·obtain⟨y,hy⟩:∃y,l[k]?=some y:=⟨_,ZvL (by rw[hn'.out];exact hlt)⟩;obtain⟨b,o,rfl,hbb,hc⟩:=hat'.out.below hbw k y hy;have hCy:=Zvc fun W hb=>hC'.out y (Zwn hy) W hb;obtain⟨q,hq⟩:∃q,f y=q:=⟨_,rfl⟩;have hnext:Hid (((l.take (k+1)).any f)=q):=by obtain⟨hk',he⟩:=ZvO.1 hy;unfold Hid;rw[ZwE hk',Zvf,he,hno.out];simpa using hq
   have hall:Hid (q=true->(l.any f)=true):=fun h=>by rw[Zvh];exact⟨y,Zwn hy,by rw[hq,h]⟩
   rw[hq]at hCy;(have y0:=hc 0 _ rfl;have y1:=hc 1 _ rfl;have y2:=hc 2 _ rfl;have y3:=hc 3 _ rfl;have y4:=hc 4 _ rfl;simp only[ZwK]at y0);have hkI:(k:Int)<(n:Int):=by omega
   clear hc hy hq hno hC';cases q
   ·go_wp2_with (go_at_call 97;refine(hCy.out _ hbw).mono ?_;rintro e w1 ⟨rfl,hb⟩;have hbw:=via hbw hb);go_roundw;case rel=>exact⟨k+1,by omega,by go_num,hnext,hbw⟩
    case measure=>simp[intOf];omega
   ·have ht:=hall.out rfl;go_wp2_with (go_at_call 97;refine(hCy.out _ hbw).mono ?_;rintro e w1 ⟨rfl,hb⟩;have hbw:=via hbw hb);go_ret;exact⟨⟨k,rfl,by rw[ht];simp⟩,hbw⟩
  ·have hkn:k=n:=by omega
   subst hkn;have hno2:=hno.out;rw[ZwC (by rw[hn'.out];exact ZwO _)]at hno2;have hno3:=Zvc hno2;clear hno hno2 hC';go_wp2;go_ret;exact⟨⟨-1,rfl,by rw[hno3.out];decide⟩,hbw⟩
theorem Zp5(A:Option Addr)(l:List Pa)(c:Nat)(B:Nat)(f:Pa->Bool)(w:World)(hl:l.length<=1000000)(hat:At 5 Pa.cs w A l)(hC:∀y∈l,∀W,Below w.heap.size w W->Calls prog 97 (#[.agg #[.string y.nm,.int .i64 y.a0,.int .i64 y.a1,.int .i64 y.c0,.int .i64 y.c1]]++#[.pointer (some ⟨B,0,none⟩)]) W fun e w'=>e=.returned (.bool (f y))/\Below W.heap.size W w'):Calls prog 96 #[.slice A l.length c,.func (.func 97) #[] #[.pointer (some ⟨B,0,none⟩)]] w fun e w'=>e=.returned (.bool (l.any f))/\Below w.heap.size w w':=by have hI:=Zp4 A l c B f w hl hat hC;generalize (l.any f)=q at*;generalize l.length=n at*;clear hat hC;go_enter func96,ntmps96;go_wp2_with (go_at_call 114;refine hI.mono ?_;rintro e w1 ⟨⟨r,rfl,hr⟩,hb⟩);go_ret;exact⟨rfl,hb⟩
theorem Zp6(A:Option Addr)(l:List En)(c:Nat)(B:Nat)(f:En->Bool)(w:World)(hl:l.length<=1000000)(hat:At 3 En.cs w A l)(hC:∀y∈l,∀W,Below w.heap.size w W->Calls prog 99 (#[.agg #[.string y.nm,.slice y.A y.co.length y.c,.int .i64 y.mo]]++#[.pointer (some ⟨B,0,none⟩)]) W fun e w'=>e=.returned (.bool (f y))/\Below W.heap.size W w'):Calls prog 61 #[.slice A l.length c,.func (.func 99) #[] #[.pointer (some ⟨B,0,none⟩)]] w fun e w'=>(∃r:Int,e=.returned (.int .i64 r)/\decide (0<=r)=l.any f)/\Below w.heap.size w w':=by
 have hC':=Zvc hC;have hat':=Zvc hat;obtain⟨n,hn⟩:∃n,l.length=n:=⟨_,rfl⟩;have hn':=Zvc hn;rw[hn]at hl |-;clear hat hC hn;go_enter func61,ntmps61;go_wp2_with fail;go_loopw [8] (fun i wr=>∃k:Nat,k<=n/\i=.int .i64 k/\Hid (((l.take k).any f)=false)/\Below w.heap.size w wr)(fun i _=>n-(intOf i).toNat);case atStart=>exact⟨0,Zxa _,rfl,rfl,ZuK _ _⟩
 case round=>
  obtain⟨k,hk,rfl,hno,hbw⟩:=hrel;by_cases hlt:k<n
  ·obtain⟨y,hy⟩:∃y,l[k]?=some y:=⟨_,ZvL (by rw[hn'.out];exact hlt)⟩;obtain⟨b,o,rfl,hbb,hc⟩:=hat'.out.below hbw k y hy;have hCy:=Zvc fun W hb=>hC'.out y (Zwn hy) W hb;obtain⟨q,hq⟩:∃q,f y=q:=⟨_,rfl⟩;have hnext:Hid (((l.take (k+1)).any f)=q):=by obtain⟨hk',he⟩:=ZvO.1 hy;unfold Hid;rw[ZwE hk',Zvf,he,hno.out];simpa using hq
   have hall:Hid (q=true->(l.any f)=true):=fun h=>by rw[Zvh];exact⟨y,Zwn hy,by rw[hq,h]⟩
   rw[hq]at hCy;(have y0:=hc 0 _ rfl;have y1:=hc 1 _ rfl;have y2:=hc 2 _ rfl;simp only[ZwK]at y0);have hkI:(k:Int)<(n:Int):=by omega
   clear hc hy hq hno hC';cases q
   ·go_wp2_with (go_at_call 99;refine(hCy.out _ hbw).mono ?_;rintro e w1 ⟨rfl,hb⟩;have hbw:=via hbw hb);go_roundw;case rel=>exact⟨k+1,by omega,by go_num,hnext,hbw⟩
    case measure=>simp[intOf];omega
   ·have ht:=hall.out rfl;go_wp2_with (go_at_call 99;refine(hCy.out _ hbw).mono ?_;rintro e w1 ⟨rfl,hb⟩;have hbw:=via hbw hb);go_ret;exact⟨⟨k,rfl,by rw[ht];simp⟩,hbw⟩
  ·have hkn:k=n:=by omega
   subst hkn;have hno2:=hno.out;rw[ZwC (by rw[hn'.out];exact ZwO _)]at hno2;have hno3:=Zvc hno2;clear hno hno2 hC';go_wp2;go_ret;exact⟨⟨-1,rfl,by rw[hno3.out];decide⟩,hbw⟩
theorem Zp7(A:Option Addr)(l:List En)(c:Nat)(B:Nat)(f:En->Bool)(w:World)(hl:l.length<=1000000)(hat:At 3 En.cs w A l)(hC:∀y∈l,∀W,Below w.heap.size w W->Calls prog 99 (#[.agg #[.string y.nm,.slice y.A y.co.length y.c,.int .i64 y.mo]]++#[.pointer (some ⟨B,0,none⟩)]) W fun e w'=>e=.returned (.bool (f y))/\Below W.heap.size W w'):Calls prog 98 #[.slice A l.length c,.func (.func 99) #[] #[.pointer (some ⟨B,0,none⟩)]] w fun e w'=>e=.returned (.bool (l.any f))/\Below w.heap.size w w':=by have hI:=Zp6 A l c B f w hl hat hC;generalize (l.any f)=q at*;generalize l.length=n at*;clear hat hC;go_enter func98,ntmps98;go_wp2_with (go_at_call 61;refine hI.mono ?_;rintro e w1 ⟨⟨r,rfl,hr⟩,hb⟩);go_ret;exact⟨rfl,hb⟩
theorem Zp8(A:Option Addr)(l:List Int)(c:Nat)  (f:Int->Bool)(w:World)(hl:l.length<=1000000)(hat:At 1 Zc w A l)(hC:∀y∈l,∀W,Below w.heap.size w W->Calls prog 100 (#[.int .i64 y]++#[]) W fun e w'=>e=.returned (.bool (f y))/\Below W.heap.size W w'):Calls prog 101 #[.slice A l.length c,.func (.func 100) #[] #[]] w fun e w'=>(∃r:Int,e=.returned (.int .i64 r)/\decide (0<=r)=l.any f)/\Below w.heap.size w w':=by
 have hC':=Zvc hC;have hat':=Zvc hat;obtain⟨n,hn⟩:∃n,l.length=n:=⟨_,rfl⟩;have hn':=Zvc hn;rw[hn]at hl |-;clear hat hC hn;go_enter func101,ntmps101;go_wp2_with fail;go_loopw [8] (fun i wr=>∃k:Nat,k<=n/\i=.int .i64 k/\Hid (((l.take k).any f)=false)/\Below w.heap.size w wr)(fun i _=>n-(intOf i).toNat);case atStart=>exact⟨0,Zxa _,rfl,rfl,ZuK _ _⟩
 case round=>
  obtain⟨k,hk,rfl,hno,hbw⟩:=hrel;by_cases hlt:k<n
  ·obtain⟨y,hy⟩:∃y,l[k]?=some y:=⟨_,ZvL (by rw[hn'.out];exact hlt)⟩;obtain⟨b,o,rfl,hbb,hc⟩:=hat'.out.below hbw k y hy;have hCy:=Zvc fun W hb=>hC'.out y (Zwn hy) W hb;obtain⟨q,hq⟩:∃q,f y=q:=⟨_,rfl⟩;have hnext:Hid (((l.take (k+1)).any f)=q):=by obtain⟨hk',he⟩:=ZvO.1 hy;unfold Hid;rw[ZwE hk',Zvf,he,hno.out];simpa using hq
   have hall:Hid (q=true->(l.any f)=true):=fun h=>by rw[Zvh];exact⟨y,Zwn hy,by rw[hq,h]⟩
   rw[hq]at hCy;(have y0:=hc 0 _ rfl;simp only[ZwK,Zw0]at y0);have hkI:(k:Int)<(n:Int):=by omega
   clear hc hy hq hno hC';cases q
   ·go_wp2_with (go_at_call 100;refine(hCy.out _ hbw).mono ?_;rintro e w1 ⟨rfl,hb⟩;have hbw:=via hbw hb);go_roundw;case rel=>exact⟨k+1,by omega,by go_num,hnext,hbw⟩
    case measure=>simp[intOf];omega
   ·have ht:=hall.out rfl;go_wp2_with (go_at_call 100;refine(hCy.out _ hbw).mono ?_;rintro e w1 ⟨rfl,hb⟩;have hbw:=via hbw hb);go_ret;exact⟨⟨k,rfl,by rw[ht];simp⟩,hbw⟩
  ·have hkn:k=n:=by omega
   subst hkn;have hno2:=hno.out;rw[ZwC (by rw[hn'.out];exact ZwO _)]at hno2;have hno3:=Zvc hno2;clear hno hno2 hC';go_wp2;go_ret;exact⟨⟨-1,rfl,by rw[hno3.out];decide⟩,hbw⟩
theorem Zky(A:Option Addr)(l:List Int)(c:Nat)  (f:Int->Bool)(w:World)(hl:l.length<=1000000)(hat:At 1 Zc w A l)(hC:∀y∈l,∀W,Below w.heap.size w W->Calls prog 100 (#[.int .i64 y]++#[]) W fun e w'=>e=.returned (.bool (f y))/\Below W.heap.size W w'):Calls prog 76 #[.slice A l.length c,.func (.func 100) #[] #[]] w fun e w'=>e=.returned (.bool (l.any f))/\Below w.heap.size w w':=by have hI:=Zp8 A l c  f w hl hat hC;generalize (l.any f)=q at*;generalize l.length=n at*;clear hat hC;go_enter func76,ntmps76;go_wp2_with (go_at_call 101;refine hI.mono ?_;rintro e w1 ⟨⟨r,rfl,hr⟩,hb⟩);go_ret;exact⟨rfl,hb⟩
theorem Zp9(A:Option Addr)(l:List Int)(c:Nat)  (f:Int->Bool)(w:World)(hl:l.length<=1000000)(hat:At 1 Zc w A l)(hC:∀y∈l,∀W,Below w.heap.size w W->Calls prog 77 (#[.int .i64 y]++#[]) W fun e w'=>e=.returned (.bool (f y))/\Below W.heap.size W w'):Calls prog 101 #[.slice A l.length c,.func (.func 77) #[] #[]] w fun e w'=>(∃r:Int,e=.returned (.int .i64 r)/\decide (0<=r)=l.any f)/\Below w.heap.size w w':=by
 have hC':=Zvc hC;have hat':=Zvc hat;obtain⟨n,hn⟩:∃n,l.length=n:=⟨_,rfl⟩;have hn':=Zvc hn;rw[hn]at hl |-;clear hat hC hn;go_enter func101,ntmps101;go_wp2_with fail;go_loopw [8] (fun i wr=>∃k:Nat,k<=n/\i=.int .i64 k/\Hid (((l.take k).any f)=false)/\Below w.heap.size w wr)(fun i _=>n-(intOf i).toNat);case atStart=>exact⟨0,Zxa _,rfl,rfl,ZuK _ _⟩
 case round=>
  obtain⟨k,hk,rfl,hno,hbw⟩:=hrel;by_cases hlt:k<n
  ·obtain⟨y,hy⟩:∃y,l[k]?=some y:=⟨_,ZvL (by rw[hn'.out];exact hlt)⟩;obtain⟨b,o,rfl,hbb,hc⟩:=hat'.out.below hbw k y hy;have hCy:=Zvc fun W hb=>hC'.out y (Zwn hy) W hb;obtain⟨q,hq⟩:∃q,f y=q:=⟨_,rfl⟩;have hnext:Hid (((l.take (k+1)).any f)=q):=by obtain⟨hk',he⟩:=ZvO.1 hy;unfold Hid;rw[ZwE hk',Zvf,he,hno.out];simpa using hq
   have hall:Hid (q=true->(l.any f)=true):=fun h=>by rw[Zvh];exact⟨y,Zwn hy,by rw[hq,h]⟩
   rw[hq]at hCy;(have y0:=hc 0 _ rfl;simp only[ZwK,Zw0]at y0);have hkI:(k:Int)<(n:Int):=by omega
   clear hc hy hq hno hC';cases q
   ·go_wp2_with (go_at_call 77;refine(hCy.out _ hbw).mono ?_;rintro e w1 ⟨rfl,hb⟩;have hbw:=via hbw hb);go_roundw;case rel=>exact⟨k+1,by omega,by go_num,hnext,hbw⟩
    case measure=>simp[intOf];omega
   ·have ht:=hall.out rfl;go_wp2_with (go_at_call 77;refine(hCy.out _ hbw).mono ?_;rintro e w1 ⟨rfl,hb⟩;have hbw:=via hbw hb);go_ret;exact⟨⟨k,rfl,by rw[ht];simp⟩,hbw⟩
  ·have hkn:k=n:=by omega
   subst hkn;have hno2:=hno.out;rw[ZwC (by rw[hn'.out];exact ZwO _)]at hno2;have hno3:=Zvc hno2;clear hno hno2 hC';go_wp2;go_ret;exact⟨⟨-1,rfl,by rw[hno3.out];decide⟩,hbw⟩
theorem Zqa(A:Option Addr)(l:List Int)(c:Nat)  (f:Int->Bool)(w:World)(hl:l.length<=1000000)(hat:At 1 Zc w A l)(hC:∀y∈l,∀W,Below w.heap.size w W->Calls prog 77 (#[.int .i64 y]++#[]) W fun e w'=>e=.returned (.bool (f y))/\Below W.heap.size W w'):Calls prog 76 #[.slice A l.length c,.func (.func 77) #[] #[]] w fun e w'=>e=.returned (.bool (l.any f))/\Below w.heap.size w w':=by have hI:=Zp9 A l c  f w hl hat hC;generalize (l.any f)=q at*;generalize l.length=n at*;clear hat hC;go_enter func76,ntmps76;go_wp2_with (go_at_call 101;refine hI.mono ?_;rintro e w1 ⟨⟨r,rfl,hr⟩,hb⟩);go_ret;exact⟨rfl,hb⟩
theorem Zkz(lo hi m:Int)(w:World):Calls prog 91 #[.agg #[.int .i64 lo,.int .i64 hi],.int .i64 m] w fun e w'=>e=.returned (.int .i64 (ZbI lo hi m))/\Below w.heap.size w w':=by unfold ZbI;obtain⟨b1,h1⟩:∃b,ZX lo 0 m=b:=⟨_,rfl⟩;obtain⟨b2,h2⟩:∃b,ZX hi 0 m=b:=⟨_,rfl⟩;obtain⟨b3,h3⟩:∃b,decide (lo<=hi)=b:=⟨_,rfl⟩;have hW1:=Zvc fun W=>ZbG lo 0 m W;have hW2:=Zvc fun W=>ZbG hi 0 m W;rw[h1]at hW1 |-;rw[h2]at hW2 |-;rw[h3];have h3':=Zvc h3;clear h1 h2 h3;cases b1;all_goals
  go_enter func91,ntmps91;go_wp2;refine Zba ?_;intro w1 hw1;have hb1:Below w.heap.size w w1:=by rw[hw1];go_grown
  have M0:w1.heap[w.heap.size]?=some (.cells #[.int .i64 lo,.int .i64 hi] 79 (0,0)):=by rw[hw1];(repeat (first|assumption|(refine Zz _ _ ?_;(simp;done))|refine ZB ?_|refine Zy ?_ _|refine ZA ?_ (by simp<;>omega) _))
  have D:=bk2 M0;clear hw1;have h3'':=h3'.out;refine Zav w 17 (by kernel_rfl) (by kernel_rfl) hb1 ?_;intro hgc hbx;simp only[ZwD,ZwF,Zvt,Zvu];repeat (go_big_quiet_step (first
   |(go_at_call 42;first|with_reducible exact Zd (hW1.out _)|with_reducible exact Zd (hW2.out _))|(go_at_call 39;with_reducible exact Zd (Zbd _ _ _))))
  refine wpQuiet_nil ?_;intro wb hb_wb hw_wb hs_wb;clear hgc hbx;go_wp2_with (go_at_call 37;refine(Zc1 _ _ _).mono ?_;rintro e w' ⟨rfl,rfl⟩);go_ret;exact⟨Zbn (by simp),by go_grown⟩
theorem Zqb(p q:Pa)(B:Nat)(w:World)(hB:w.heap[B]?=some (.cells #[.string p.nm,.int .i64 p.a0,.int .i64 p.a1,.int .i64 p.c0,.int .i64 p.c1] 86 (0,0))):Calls prog 97 (#[.agg #[.string q.nm,.int .i64 q.a0,.int .i64 q.a1,.int .i64 q.c0,.int .i64 q.c1]]++#[.pointer (some ⟨B,0,none⟩)]) w fun e w'=>e=.returned (.bool (eqS q.nm p.nm))/\Below w.heap.size w w':=by
 have c0:w.cell? ⟨B,0,none⟩=some (.string p.nm):=by unfold World.cell?;simp[hB]
 have hs:=ZI hB;clear hB;simp only[Zvk,Zvm,Zwr];go_enter func97,ntmps97;go_wp2;go_ret;exact⟨Zck (by simp[eqS]),by go_grown⟩
theorem Zqc(p q:En)(B:Nat)(w:World)(hB:w.heap[B]?=some (.cells #[.string p.nm,.slice p.A p.co.length p.c,.int .i64 p.mo] 88 (0,0))):Calls prog 99 (#[.agg #[.string q.nm,.slice q.A q.co.length q.c,.int .i64 q.mo]]++#[.pointer (some ⟨B,0,none⟩)]) w fun e w'=>e=.returned (.bool (eqS q.nm p.nm))/\Below w.heap.size w w':=by have c0:=(bk3 hB).1;have hs:=ZI hB;clear hB;simp only[Zvk,Zvm,Zwr];go_enter func99,ntmps99;go_wp2;go_ret;exact⟨Zck (by simp[eqS]),by go_grown⟩
theorem ZkA(n:Int)(w:World):Calls prog 100 (#[.int .i64 n]++#[]) w fun e w'=>e=.returned (.bool (!Zbf n 20))/\Below w.heap.size w w':=by simp only[Zvk,Zvm,Zwr];go_enter func100,ntmps100;go_wp2_with (go_at_call 74;refine(ZhM _ _ _ (by decide)).mono ?_;rintro e w' ⟨rfl,rfl⟩);go_ret;exact⟨rfl,ZuK _ _⟩
variable {w:World} {ps:List Pa} {i:Nat} {es:List En}
theorem At.take'{α:Type} {sz:Nat} {cs:α->List Value} {A:Option Addr} {l:List α} (h:At sz cs w A l)(n:Nat):At sz cs w A (l.take n):=by
 intro k x hk;rw[ZvU]at hk;split at hk;·exact h k x hk
 ·cases hk
def Zbb:List Int->Nat->Option (Nat×Int)|[],_=>none|e::l,k=>if e=0 then Zbb l (k+1)else some (k,e)
theorem ZcD:∀(l:List Int)(k:Nat),(∀i,i<l.length->l.getD i 0=0)->Zbb l k=none|[],_,_=>rfl|e::l,k,h=>by unfold Zbb;rw[if_pos (show e=0 by simpa using h 0 (by simp))];exact ZcD l (k+1) fun i hi=>by have:=h (i+1) (by simpa using hi);simpa using this
theorem Zeh:∀(l:List Int)(k i:Nat),i<l.length->(∀j,j<i->l.getD j 0=0)->l.getD i 0≠0->Zbb l k=some (k+i,l.getD i 0)|[],_,_,h,_,_=>by simp at h|e::l,k,0,_,_,h=>by unfold Zbb;rw[if_neg (show ¬e=0 by simpa using h)];rfl|e::l,k,i+1,hi,h1,h2=>by unfold Zbb;rw[if_pos (show e=0 by simpa using h1 0 (by omega)),Zeh l (k+1) i (by simpa using hi) (fun j hj=>by simpa using h1 (j+1) (by omega)) (by simpa using h2)];simp;omega
def Zaq(ps:List Pa)(i:Nat)(p:Pa):Int:=firstE [unl (Zah p.nm.data.toList) 4,unl (!((ps.take i).any fun q=>eqS q.nm p.nm)) 5,ZbI p.a0 p.a1 400,ZbI p.c0 p.c1 20]
def ZaW(np:Nat)(es:List En)(i:Nat)(x:En):Int:=firstE [unl (Zah x.nm.data.toList) 4,unl (!((es.take i).any fun y=>eqS y.nm x.nm)) 5,unl (decide (x.co.length=np)) 10,unl (!((x.mo::x.co).any fun n=>!Zbf n 20)) 2]
def ZaL(ps:List Pa):List Int:=ps.mapIdx fun i p=>Zaq ps i p
def Zay(np:Nat)(es:List En):List Int:=es.mapIdx fun i x=>ZaW np es i x
theorem ZcE{p:Pa} (h:ps[i]?=some p):(ZaL ps).getD i 0=Zaq ps i p:=by simp[ZaL,ZvG,h]
theorem ZdH{np:Nat} {x:En} (h:es[i]?=some x):(Zay np es).getD i 0=ZaW np es i x:=by simp[Zay,ZvG,h]
def Zaz(n:Nat):Int:=firstE [unl (decide (0<n)) 10,unl (decide (n<=5)) 8]
def ZU(ps:List Pa)(es:List En):Int×Int:=if Zaz ps.length≠0 then (0,Zaz ps.length) else match Zbb (ZaL ps) 0 with|some (k,e)=>((k:Int),e)|none=>if 8<es.length then (0,8)else match Zbb (Zay ps.length es) 0 with|some (k,e)=>((k:Int),e)|none=>(0,0)
structure BookAt (w:World)(pA:Option Addr)(pc:Nat)(ps:List Pa)(eA:Option Addr)(ec:Nat)(es:List En):Prop where
 P:At 5 Pa.cs w pA ps
 E:Zaw w eA es
 pc':ps.length<=pc
 ec':es.length<=ec
 nil:∀x∈es,x.A=none->x.c=0
theorem BookAt.below{w':World} {pA eA:Option Addr} {pc ec:Nat} (h:BookAt w pA pc ps eA ec es)(hb:Below w.heap.size w w'):BookAt w' pA pc ps eA ec es:=⟨h.P.below hb,h.E.below hb,h.pc',h.ec',h.nil⟩
structure FewB (ps:List Pa)(es:List En):Prop where
 p:ps.length<=1000
 e:es.length<=1000
 pn:∀p∈ps,p.nm.size<=1000
 en:∀x∈es,x.nm.size<=1000
 co:∀x∈es,x.co.length<=1000
theorem Zqd{P:Program} {ops:Array Oper} {Q:Exit->Act->World->Prop} {l:List Oper} {a:Act} (h:∀W,W=w->wpList P ops Q l a W):wpList P ops Q l a w:=h w rfl
theorem Zqe(pA eA:Option Addr)(pc ec pn en:Nat)(ps:List Pa)(es:List En)(w:World)(hB:BookAt w pA pc ps eA ec es)(hF:FewB ps es)(hpn:ps.length=pn)(hen:es.length=en):Calls prog 75 #[.agg #[.slice pA pn pc,.slice eA en ec]] w fun e w'=>e=.returned (.tuple #[.int .i64 (ZU ps es).1,.int .i64 (ZU ps es).2])/\Below w.heap.size w w':=by
 have hpc:pn<=pc:=by rw[<-hpn];exact hB.pc'
 have hec:en<=ec:=by rw[<-hen];exact hB.ec'
 have hp1:pn<=1000:=by rw[<-hpn];exact hF.p
 have he1:en<=1000:=by rw[<-hen];exact hF.e
 have hB':=Zvc hB;have hF':=Zvc hF;have hpn':=Zvc hpn;have hen':=Zvc hen;have hv:=Zvc (show ZU ps es=if Zaz pn≠0 then (0,Zaz pn) else match Zbb (ZaL ps) 0 with
    |some (k,e)=>((k:Int),e)|none=>if 8<en then (0,8)else match Zbb (Zay pn es) 0 with
     |some (k,e)=>((k:Int),e)|none=>(0,0)by rw[<-hpn,<-hen];rfl);obtain⟨V,hV⟩:∃V,ZU ps es=V:=⟨_,rfl⟩;rw[hV]at hv |-;have hsz:Hid (Zaz pn=firstE [unl (decide (0<pn)) 10,unl (decide (pn<=5)) 8]):=rfl;obtain⟨S,hS⟩:∃S,Zaz pn=S:=⟨_,rfl⟩;rw[hS]at hv hsz;clear hB hF hpn hen hV hS;obtain⟨s1,hs1⟩:∃b,decide (0<pn)=b:=⟨_,rfl⟩;obtain⟨s2,hs2⟩:∃b,decide (pn<=5)=b:=⟨_,rfl⟩;rw[hs1,hs2]at hsz;have hs1I:decide ((0:Int)<(pn:Int))=s1:=by rw[<-hs1,decide_eq_decide];omega
 have hs2I:decide ((pn:Int)<=5)=s2:=by rw[<-hs2,decide_eq_decide];omega
 go_enter func75,ntmps75;go_wp2;refine Zba ?_;intro w1 hw1;have hb1:Below w.heap.size w w1:=by rw[hw1];go_grown
 have M0:w1.heap[w.heap.size]?=some (.cells #[.slice pA pn pc,.slice eA en ec] 25 (0,0)):=by rw[hw1];(repeat (first|assumption|(refine Zz _ _ ?_;(simp;done))|refine ZB ?_|refine Zy ?_ _|refine ZA ?_ (by simp<;>omega) _))
 have D:=bk2 M0;clear hw1;refine Zav w 10 (by kernel_rfl) (by kernel_rfl) hb1 ?_;intro hgc hbx;simp only[ZwD,ZwF,Zvt,Zvu];repeat (go_big_quiet_step ((go_at_call 39;with_reducible exact Zd (Zbd _ _ _))))
 refine wpQuiet_nil ?_;intro wb hb_wb hw_wb hs_wb;clear hgc hbx;have M1:=Zw hb_wb M0;have D2:=bk2 M1;have hbw:=via hb1 hb_wb;clear M0 D hb1 hb_wb;have hss:=Zvc hsz.out.symm;by_cases hS0:S=0
 ·subst hS0;have hss0:=hss.out;have hv2:=Zvc (show V=match Zbb (ZaL ps) 0 with|some (k,e)=>((k:Int),e)|none=>if 8<en then (0,8)else match Zbb (Zay pn es) 0 with
     |some (k,e)=>((k:Int),e)|none=>(0,0)by rw[hv.out,if_neg (by simp)]);clear hv hsz hss hs1 hs2 hs1I hs2I;go_wp2_with (go_at_call 37;refine(Zc1 _ _ _).mono ?_;rw[hss0];rintro e w' ⟨rfl,rfl⟩);go_loopw [32] (fun i wr=>∃k:Nat,k<=pn/\i=.int .i64 k/\Hid (∀j,j<k->(ZaL ps).getD j 0=0)/\wr.heap[w.heap.size]?=some (.cells #[.slice pA pn pc,.slice eA en ec] 25 (0,0))/\Below w.heap.size w wr)(fun i _=>pn-(intOf i).toNat);case atStart=>exact⟨0,Zxa _,rfl,fun j hj=>by omega,by(repeat (first|assumption|(refine Zz _ _ ?_;(simp;done))|refine ZB ?_|refine Zy ?_ _|refine ZA ?_ (by simp<;>omega) _)),by go_grown⟩
  case round=>
   clear M1 D2 hbw hw_wb hs_wb hss0;obtain⟨k,hk,rfl,hz,M1,hbw⟩:=hrel;have D:=bk2 M1;by_cases hkn:k<pn
   ·have hkI:(k:Int)<(pn:Int):=by omega
    obtain⟨p,hp⟩:∃p,ps[k]?=some p:=⟨_,ZvL (by rw[hpn'.out];exact hkn)⟩;obtain⟨b,o,rfl,hbb,hc⟩:=(hB'.out.below hbw).P k p hp;have y0:=hc 0 _ rfl;have y1:=hc 1 _ rfl;have y2:=hc 2 _ rfl;have y3:=hc 3 _ rfl;have y4:=hc 4 _ rfl;simp only[ZwK]at y0;have hpe:=Zvc (ZcE hp);have hkc:¬((pc:Int)<(k:Int)):=by omega
    have hkc2:(k:Int)<=(pc:Int):=by omega
    have hCo:=Zvc (by have h1:=Zp5 (some ⟨b,o,none⟩) (ps.take k) pc wr.heap.size (fun q=>eqS q.nm p.nm) (wr.alloc (.cells #[.string p.nm,.int .i64 p.a0,.int .i64 p.a1,.int .i64 p.c0,.int .i64 p.c1] 86 (0,0))) (by rw[Zv5];have:=hpn'.out;omega) (((hB'.out.below hbw).P.take' k).below (ZC _ _)) (fun y _ W hW=>Zqb p y wr.heap.size W (Zw hW (Zz _ _ rfl)));rw[Zv5,hpn'.out,ZwX (by omega)]at h1;exact h1);obtain⟨q,hq⟩:∃q,(ps.take k).any (fun q=>eqS q.nm p.nm)=q:=⟨_,rfl⟩;rw[hq]at hCo;have hpE:Hid (Zaq ps k p=firstE [unl (Zah p.nm.data.toList) 4,unl (!((ps.take k).any fun q=>eqS q.nm p.nm)) 5,ZbI p.a0 p.a1 400,ZbI p.c0 p.c1 20]):=rfl;rw[hq]at hpE;obtain⟨E,hE⟩:∃E,Zaq ps k p=E:=⟨_,rfl⟩;rw[hE]at hpE hpe;have hnm:=Zvc (show p.nm.size<=9223372036854775807 from ZwP (hF'.out.pn p (Zwn hp)) (by decide));have hsW:=ZI M1;clear hc hp hq hE;go_wp2_with (go_at_call 96;refine hCo.out.mono ?_;rintro e w3 ⟨rfl,hb3⟩);have N0:=Zw hb3 (Zy M1 (.cells #[.string p.nm,.int .i64 p.a0,.int .i64 p.a1,.int .i64 p.c0,.int .i64 p.c1] 86 (0,0)));have N1:=Zw hb3 (Zz wr (.cells #[.string p.nm,.int .i64 p.a0,.int .i64 p.a1,.int .i64 p.c0,.int .i64 p.c1] 86 (0,0)) rfl);have hb4:=via hbw (via (ZC wr (.cells #[.string p.nm,.int .i64 p.a0,.int .i64 p.a1,.int .i64 p.c0,.int .i64 p.c1] 86 (0,0))) hb3);have e0:w3.cell? ⟨wr.heap.size,0,none⟩=some (.string p.nm):=by unfold World.cell?;simp[N1]
    have e1:w3.cell? ⟨wr.heap.size,1,none⟩=some (.int .i64 p.a0):=by unfold World.cell?;simp[N1]
    have e2:w3.cell? ⟨wr.heap.size,2,none⟩=some (.int .i64 p.a1):=by unfold World.cell?;simp[N1]
    have e3:w3.cell? ⟨wr.heap.size,3,none⟩=some (.int .i64 p.c0):=by unfold World.cell?;simp[N1]
    have e4:w3.cell? ⟨wr.heap.size,4,none⟩=some (.int .i64 p.c1):=by unfold World.cell?;simp[N1]
    have hs3:=ZI N1;clear y0 y1 y2 y3 y4 hb3 D M1 hCo;refine Zav w 13 (by kernel_rfl) (by kernel_rfl) hb4 ?_;intro hgc hbx;simp only[ZwD,ZwF,Zvt,Zvu];repeat (go_big_quiet_step (first|(go_at_call 40;with_reducible exact Grew.call (ZeV _ _ hnm.out))|(go_at_call 39;with_reducible exact Zd (Zbd _ _ _))|(go_at_call 91;with_reducible exact Grew.call (Zkz _ _ _ _))))
    refine wpQuiet_nil ?_;intro wb hb_wb hw_wb hs_wb;clear hgc hbx;have P0:=Zw hb_wb N0;clear N0 N1 e0 e1 e2 e3 e4 hb4 hb_wb;have hss:=Zvc hpE.out.symm;have hss0:=hss.out;by_cases hE0:E=0
    ·subst hE0;go_wp2_with (go_at_call 37;refine(Zcb _ _ _ _ _).mono ?_;rw[hss0];rintro e w' ⟨rfl,rfl⟩);go_roundw;case rel=>exact⟨k+1,by omega,by go_num,(fun j hj=>by
      by_cases hjk:j=k;·rw[hjk,hpe.out]
      ·exact hz.out j (by omega)),Zy P0 _,via hw_wb (ZC _ _)⟩
     case measure=>simp[intOf]<;>omega
    ·have hEb : (E != 0) = true := by simpa using hE0
     have hvk:=Zvc (show V=((k:Int),E)by rw[hv2.out,Zeh (ZaL ps) 0 k (by simp[ZaL];rw[hpn'.out];exact hkn) hz.out (by rw[hpe.out];exact hE0),hpe.out];simp);go_wp2_with (go_at_call 37;refine(Zcb _ _ _ _ _).mono ?_;rw[hss0];rintro e w' ⟨rfl,rfl⟩);go_ret2;exact⟨by rw[hvk.out];rfl,by go_grown⟩
   ·obtain rfl:pn=k:=by omega
    have hv3:=Zvc (show V=if 8<en then (0,8)else match Zbb (Zay pn es) 0 with
      |some (k,e)=>((k:Int),e)|none=>(0,0)by rw[hv2.out,ZcD (ZaL ps) 0 fun i hi=>hz.out i (by simp[ZaL]at hi;rw[hpn'.out]at hi;exact hi)]);clear hz hkn hv2;by_cases h8:8<en
    ·have hv4:=Zvc (show V=(0,8)by rw[hv3.out,if_pos h8]);have h8I:(8:Int)<(en:Int):=by omega
     go_wp2;go_ret2;exact⟨by rw[hv4.out];rfl,by go_grown⟩
    ·have h8I:¬(8:Int)<(en:Int):=by omega
     have hv4:=Zvc (show V=match Zbb (Zay pn es) 0 with|some (k,e)=>((k:Int),e)|none=>(0,0)by rw[hv3.out,if_neg h8]);go_wp2;go_loopw [70] (fun i wr=>∃k:Nat,k<=en/\i=.int .i64 k/\Hid (∀j,j<k->(Zay pn es).getD j 0=0)/\wr.heap[w.heap.size]?=some (.cells #[.slice pA pn pc,.slice eA en ec] 25 (0,0))/\Below w.heap.size w wr)(fun i _=>en-(intOf i).toNat);case atStart=>exact⟨0,Zxa _,rfl,fun j hj=>by omega,M1,hbw⟩
     case round=>
      clear M1 D hbw;obtain⟨k,hk,rfl,hz,M1,hbw⟩:=hrel;have D:=bk2 M1;by_cases hkn:k<en
      ·have hkI:(k:Int)<(en:Int):=by omega
       obtain⟨x,hx⟩:∃x,es[k]?=some x:=⟨_,ZvL (by rw[hen'.out];exact hkn)⟩;have hxm:=Zwn hx;obtain⟨b,o,rfl,hbb,hc⟩:=(hB'.out.below hbw).E.1 k x hx;have y0:=hc 0 _ rfl;have y1:=hc 1 _ rfl;have y2:=hc 2 _ rfl;simp only[ZwK]at y0;have hpe:=Zvc (ZdH (np:=pn) hx);have hkc:¬((ec:Int)<(k:Int)):=by omega
       have hkc2:(k:Int)<=(ec:Int):=by omega
       have hCo:=Zvc (by have h1:=Zp7 (some ⟨b,o,none⟩) (es.take k) ec wr.heap.size (fun y=>eqS y.nm x.nm) (wr.alloc (.cells #[.string x.nm,.slice x.A x.co.length x.c,.int .i64 x.mo] 88 (0,0))) (by rw[Zv5];have:=hen'.out;omega) (((hB'.out.below hbw).E.1.take' k).below (ZC _ _)) (fun y _ W hW=>Zqc x y wr.heap.size W (Zw hW (Zz _ _ rfl)));rw[Zv5,hen'.out,ZwX (by omega)]at h1;exact h1);obtain⟨q,hq⟩:∃q,(es.take k).any (fun y=>eqS y.nm x.nm)=q:=⟨_,rfl⟩;rw[hq]at hCo;have hpE:Hid (ZaW pn es k x=firstE [unl (Zah x.nm.data.toList) 4,unl (!((es.take k).any fun y=>eqS y.nm x.nm)) 5,unl (decide (x.co.length=pn)) 10,unl (!((x.mo::x.co).any fun n=>!Zbf n 20)) 2]):=rfl;rw[hq]at hpE;obtain⟨E,hE⟩:∃E,ZaW pn es k x=E:=⟨_,rfl⟩;rw[hE]at hpE hpe;have hnm:=Zvc (show x.nm.size<=9223372036854775807 from ZwP (hF'.out.en x hxm) (by decide));have hxc:=Zvc ((hB'.out.below hbw).E.2 x hxm);have hcl:=hF'.out.co x hxm;have hnil:=Zvc (hB'.out.nil x hxm);have hsW:=ZI M1;obtain⟨L,hL⟩:∃L,x.co.length=L:=⟨_,rfl⟩;have hL':=Zvc hL;rw[hL]at hCo hpE hcl y1;obtain⟨r,hr⟩:∃r,(x.mo::x.co).any (fun n=>!Zbf n 20)=r:=⟨_,rfl⟩;have hr':=Zvc hr;rw[hr]at hpE;obtain⟨s,hs⟩:∃s,decide (L=pn)=s:=⟨_,rfl⟩;rw[hs]at hpE;have hsI:((L:Int)==(pn:Int))=s:=by rw[<-hs,ZuP];simp;omega
       obtain⟨i0,hi,hz0,hz1,hz2⟩:=info_parts info3;clear hc hx hxm hq hE hL hr;have hlitO:=Zvc fun(y:World)=>(⟨rfl,.inr ⟨y.heap.size,1,#[.int .i64 x.mo],rfl,ZwO _,Zz _ _ rfl,ZwO _,by decide,rfl,rfl⟩⟩:(y.alloc (.cells #[.int .i64 x.mo] 3 (0,0))).ownsRow y.heap.size 3 1 (.slice (some ⟨y.heap.size,0,none⟩) 1 1) 1 [.int .i64 x.mo]);obtain⟨XA,hXA⟩:∃A,x.A=A:=⟨_,rfl⟩;rw[hXA]at y1 hxc hnil hCo;rcases XA with _|ad
       ·have hco0:x.co=[]:=by cases hh:x.co with|nil=>rfl|cons y l=>obtain⟨b',o',e,-⟩:=hxc.out 0 y (by rw[hh];rfl);cases e
        have hL0:L=0:=by rw[<-hL'.out,hco0];rfl
        subst hL0;have hsI0:((0:Int)==(pn:Int))=s:=hsI;clear hsI;have hc0:=hnil.out rfl;rw[hc0]at y1 hCo;have hCo:=Zvc hCo.out;go_wp2_with (first|(go_at_call 98;refine hCo.out.mono ?_;rintro e w3 ⟨rfl,hb3⟩;have N1:=Zw hb3 (Zz wr (.cells #[.string x.nm,.slice none 0 0,.int .i64 x.mo] 88 (0,0)) rfl);have D1:=bk3 N1;have N0:=Zw hb3 (Zy M1 (.cells #[.string x.nm,.slice none 0 0,.int .i64 x.mo] 88 (0,0)));have D0:=bk2 N0;have hb4:=via hbw (via (ZC wr (.cells #[.string x.nm,.slice none 0 0,.int .i64 x.mo] 88 (0,0))) hb3))|(at_builtin;refine wpList_append_own_none rfl _ _ 28 rfl w3.heap.size 3 i0 1 underlying28 hi _ 1 [.int .i64 x.mo] rfl (hlitO.out w3) rfl ?_;refine ZpP ?stop));case stop=>
        refine Zvc ?_;refine Zqd ?_;intro w4 hw4;have hb34:Below w3.heap.size w3 w4:=by rw[hw4];exact ZC _ _
        have hat4':=Zvc (show At 1 Zc w4 (some ⟨w3.heap.size,0,none⟩) (x.mo::x.co)by rw[hco0,hw4];exact(ZO.new (T:=3) w3 [x.mo]).at');have hn4':=Zvc (show (x.mo::x.co).length=1 by rw[hco0];rfl);clear hw4;have hCc:=Zvc (by have h1:=Zky _ (x.mo::x.co) 1 (fun n=>!Zbf n 20) w4 (by rw[hn4'.out];omega) hat4'.out (fun y _ W hW=>ZkA y W);rw[hr'.out,hn4'.out]at h1;exact h1);have O0:=Zw hb34 N0;have O1:=Zw hb34 N1;have hb5:=via hb4 hb34;have D0:=bk2 O0;have D1:=bk3 O1;clear N0 N1 hb4 hCo;go_wp2_with (go_at_call 76;refine hCc.out.mono ?_;rintro e w6 ⟨rfl,hb6⟩);have N0:=Zw hb6 O0;have N1:=Zw hb6 O1;have hb7:=via hb5 hb6;clear D0 D1 O0 O1 hb5 hb6 hCc;have D0:=bk2 N0;have D1:=bk3 N1;have hs7:=ZI N1;refine Zav w 18 (by kernel_rfl) (by kernel_rfl) hb7 ?_;intro hgc hbx;simp only[ZwD,ZwF,Zvt,Zvu];repeat (go_big_quiet_step (first
         |(go_at_call 40;with_reducible exact Grew.call (ZeV _ _ hnm.out))|(go_at_call 39;with_reducible exact Zd (Zbd _ _ _))))
        refine wpQuiet_nil ?_;intro wb hb_wb hw_wb hs_wb;clear hgc hbx;have P0:=Zw hb_wb N0;clear N0 N1 D0 D1 hb7 hb_wb;have hss:=Zvc hpE.out.symm;have hss0:=hss.out;by_cases hE0:E=0
        ·subst hE0;go_wp2_with (go_at_call 37;refine(Zcb _ _ _ _ _).mono ?_;rw[hss0];rintro e w' ⟨rfl,rfl⟩);go_roundw;case rel=>exact⟨k+1,by omega,by go_num,(fun j hj=>by
          by_cases hjk:j=k;·rw[hjk,hpe.out]
          ·exact hz.out j (by omega)),Zy P0 _,via hw_wb (ZC _ _)⟩
         case measure=>simp[intOf]<;>omega
        ·have hEb : (E != 0) = true := by simpa using hE0
         have hvk:=Zvc (show V=((k:Int),E)by rw[hv4.out,Zeh (Zay pn es) 0 k (by simp[Zay];rw[hen'.out];exact hkn) hz.out (by rw[hpe.out];exact hE0),hpe.out];simp);go_wp2_with (go_at_call 37;refine(Zcb _ _ _ _ _).mono ?_;rw[hss0];rintro e w' ⟨rfl,rfl⟩);go_ret2;exact⟨by rw[hvk.out];rfl,by go_grown⟩
       ·go_wp2_with (first|(go_at_call 98;refine hCo.out.mono ?_;rintro e w3 ⟨rfl,hb3⟩;have N1:=Zw hb3 (Zz wr (.cells #[.string x.nm,.slice (some ad) L x.c,.int .i64 x.mo] 88 (0,0)) rfl);have D1:=bk3 N1;have N0:=Zw hb3 (Zy M1 (.cells #[.string x.nm,.slice (some ad) L x.c,.int .i64 x.mo] 88 (0,0)));have D0:=bk2 N0;have hb4:=via hbw (via (ZC wr (.cells #[.string x.nm,.slice (some ad) L x.c,.int .i64 x.mo] 88 (0,0))) hb3))|(at_builtin;refine wpList_append_own _ rfl _ _ 28 rfl w3.heap.size 3 i0 (.int .i64 0) 1 8 underlying28 hi hz0 hz1 hz2 rfl (by decide) _ _ _ rfl (hlitO.out w3) ad L x.c (x.co.map (Value.int .i64)) rfl ?c0 ?c1 ?c2 ?c3 ?c4 ?c5 ?_));case c0=>rw[Zv2,hL'.out,Zw0]
        case c1=>
         intro j u hu;rw[ZvP]at hu;obtain⟨y,hy,rfl⟩:=Zxf.1 hu;obtain⟨b',o',e,-,hcc⟩:=((hxc.out.below (via (ZC wr (.cells #[.string x.nm,.slice (some ad) L x.c,.int .i64 x.mo] 88 (0,0))) hb3)).below (ZC w3 (.cells #[.int .i64 x.mo] 3 (0,0)))) j y hy;cases e;have e:Addr.add ⟨b',o',none⟩ j=⟨b',o'+j,none⟩:=by unfold Addr.add;split<;>simp_all
         rw[e];simpa using hcc 0 _ rfl
        case c2=>intro u hu;obtain⟨y,-,rfl⟩:=Zwm.1 hu;rfl
        case c3=>unfold maxLen;omega
        case c4=>omega
        case c5=>simp
        intro v4 w4 hown4 hg4 _;obtain⟨A4,c4,rfl⟩:=Zac hown4;have hb34:Below w3.heap.size w3 w4:=ZW (ZC w3 _) hg4 fun b e=>by cases e;exact ZwO _
        have hat4:=ZaJ (l:=x.mo::x.co) hown4;have hn4:(x.mo::x.co).length=1+L:=by simp only[Zv0];rw[hL'.out];omega
        have hat4':=Zvc hat4;have hn4':=Zvc hn4;clear hown4 hg4 hat4 hn4;have hCc:=Zvc (by have h1:=Zky _ (x.mo::x.co) c4 (fun n=>!Zbf n 20) w4 (by rw[hn4'.out];omega) hat4'.out (fun y _ W hW=>ZkA y W);rw[hr'.out,hn4'.out]at h1;exact h1);have O0:=Zw hb34 N0;have O1:=Zw hb34 N1;have hb5:=via hb4 hb34;have D0:=bk2 O0;have D1:=bk3 O1;clear N0 N1 hb4 hCo;go_wp2_with (go_at_call 76;refine hCc.out.mono ?_;rintro e w6 ⟨rfl,hb6⟩);have N0:=Zw hb6 O0;have N1:=Zw hb6 O1;have hb7:=via hb5 hb6;clear D0 D1 O0 O1 hb5 hb6 hCc;have D0:=bk2 N0;have D1:=bk3 N1;have hs7:=ZI N1;refine Zav w 18 (by kernel_rfl) (by kernel_rfl) hb7 ?_;intro hgc hbx;simp only[ZwD,ZwF,Zvt,Zvu];repeat (go_big_quiet_step (first|(go_at_call 40;with_reducible exact Grew.call (ZeV _ _ hnm.out))|(go_at_call 39;with_reducible exact Zd (Zbd _ _ _))))
        refine wpQuiet_nil ?_;intro wb hb_wb hw_wb hs_wb;clear hgc hbx;have P0:=Zw hb_wb N0;clear N0 N1 D0 D1 hb7 hb_wb;have hss:=Zvc hpE.out.symm;have hss0:=hss.out;by_cases hE0:E=0
        ·subst hE0;go_wp2_with (go_at_call 37;refine(Zcb _ _ _ _ _).mono ?_;rw[hss0];rintro e w' ⟨rfl,rfl⟩);go_roundw;case rel=>exact⟨k+1,by omega,by go_num,(fun j hj=>by
          by_cases hjk:j=k;·rw[hjk,hpe.out]
          ·exact hz.out j (by omega)),Zy P0 _,via hw_wb (ZC _ _)⟩
         case measure=>simp[intOf]<;>omega
        ·have hEb : (E != 0) = true := by simpa using hE0
         have hvk:=Zvc (show V=((k:Int),E)by rw[hv4.out,Zeh (Zay pn es) 0 k (by simp[Zay];rw[hen'.out];exact hkn) hz.out (by rw[hpe.out];exact hE0),hpe.out];simp);go_wp2_with (go_at_call 37;refine(Zcb _ _ _ _ _).mono ?_;rw[hss0];rintro e w' ⟨rfl,rfl⟩);go_ret2;exact⟨by rw[hvk.out];rfl,by go_grown⟩
      ·obtain rfl:en=k:=by omega
       have hv5:=Zvc (show V=(0,0)by rw[hv4.out,ZcD (Zay pn es) 0 fun i hi=>hz.out i (by simp[Zay]at hi;rw[hen'.out]at hi;exact hi)]);go_wp2;go_ret2;exact⟨by rw[hv5.out];rfl,hbw⟩
 ·have hSb : (S != 0) = true := by simpa using hS0
  have hv2:=Zvc (show V=(0,S)by rw[hv.out,if_pos hS0]);have hss0:=hss.out;go_wp2_with (go_at_call 37;refine(Zc1 _ _ _).mono ?_;rw[hss0];rintro e w' ⟨rfl,rfl⟩);go_ret2;exact⟨by rw[hv2.out];rfl,by go_grown⟩
theorem Ze9(pA eA:Option Addr)(pc ec pn en:Nat)(ps:List Pa)(es:List En)(w:World)(hB:BookAt w pA pc ps eA ec es)(hF:FewB ps es)(hpn:ps.length=pn)(hen:es.length=en):Calls prog 38 #[.agg #[.slice pA pn pc,.slice eA en ec]] w fun e w'=>e=.returned (.int .i64 (ZU ps es).2)/\Below w.heap.size w w':=by have hC:=Zvc (Zqe pA eA pc ec pn en ps es (w.alloc (.cells #[.slice pA pn pc,.slice eA en ec] 25 (0,0))) (hB.below (ZC _ _)) hF hpn hen);go_enter func38,ntmps38;go_wp2_with (go_at_call 75;refine hC.out.mono ?_;rintro e w2 ⟨rfl,hb2⟩);go_ret;exact⟨rfl,via (ZC _ _) hb2⟩
def Zab(ps:List Pa)(es:List En)(k ag:Int):Int:=firstE [(ZU ps es).2,ZaK k ag]
theorem ZhP(pA eA:Option Addr)(pc ec pn en:Nat)(ps:List Pa)(es:List En)(k ag:Int)(w:World)(hB:BookAt w pA pc ps eA ec es)(hF:FewB ps es)(hpn:ps.length=pn)(hen:es.length=en):Calls prog 52 #[.agg #[.slice pA pn pc,.slice eA en ec],.agg #[.int .i64 k,.int .i64 ag]] w fun e w'=>e=.returned (.int .i64 (Zab ps es k ag))/\Below w.heap.size w w':=by
 unfold Zab;have hC:=Zvc fun W (hb:Below w.heap.size w W)=>Ze9 pA eA pc ec pn en ps es W (hB.below hb) hF hpn hen;obtain⟨E,hE⟩:∃E,(ZU ps es).2=E:=⟨_,rfl⟩;rw[hE]at hC |-;clear hB hF hpn hen hE;go_enter func52,ntmps52;go_wp2;refine Zba ?_;intro w1 hw1;have hb1:Below w.heap.size w w1:=by rw[hw1];go_grown
 have M0:w1.heap[w.heap.size]?=some (.cells #[.slice pA pn pc,.slice eA en ec] 25 (0,0)):=by rw[hw1];(repeat (first|assumption|(refine Zz _ _ ?_;(simp;done))|refine ZB ?_|refine Zy ?_ _|refine ZA ?_ (by simp<;>omega) _))
 have M1:w1.heap[w.heap.size+1]?=some (.cells #[.int .i64 k,.int .i64 ag] 27 (0,0)):=by rw[hw1];(repeat (first|assumption|(refine Zz _ _ ?_;(simp;done))|refine ZB ?_|refine Zy ?_ _|refine ZA ?_ (by simp<;>omega) _))
 have D0:=bk2 M0;have D1:=bk2 M1;clear hw1;refine Zav w 4 (by kernel_rfl) (by kernel_rfl) hb1 ?_;intro hgc hbx;simp only[ZwD,ZwF,Zvt,Zvu];repeat (go_big_quiet_step (first
  |(go_at_call 38;with_reducible exact Grew.call (hC.out _ (hbx.out _)))|(go_at_call 41;with_reducible exact Grew.call (ZhO _ _ _))))
 refine wpQuiet_nil ?_;intro wb hb_wb hw_wb hs_wb;clear hgc hbx;go_wp2_with (go_at_call 37;refine(Zc1 _ _ _).mono ?_;rintro e w' ⟨rfl,rfl⟩);go_ret;exact⟨rfl,by go_grown⟩
def ZG(ps:List Pa)(k ag:Int):List Int:=ps.map fun p=>if k=0 then p.a0 else if ag<=p.a0 then 1 else 0
theorem ZkB{ps:List Pa} {k ag:Int} {j:Nat} {p:Pa} (h:ps[j]?=some p):ZG (ps.take (j+1)) k ag=ZG (ps.take j) k ag++[if k=0 then p.a0 else if ag<=p.a0 then 1 else 0]:=by unfold ZG;rw[ZwA,h];simp
theorem ZhQ(pA eA:Option Addr)(pc ec pn en:Nat)(ps:List Pa)(k ag:Int)(w:World)(hP:At 5 Pa.cs w pA ps)(hpn:ps.length=pn)(hp:pn<=1000):Calls prog 65 #[.agg #[.slice pA pn pc,.slice eA en ec],.agg #[.int .i64 k,.int .i64 ag]] w fun e w'=>(∃A c,e=.returned (.slice A pn c)/\w'.ownsRow w.heap.size 3 1 (.slice A pn c) pn ((ZG ps k ag).map (Value.int .i64)))/\Below w.heap.size w w':=by
 have hP':=Zvc hP;have hpn':=Zvc hpn;obtain⟨i0,hi,hz0,hz1,hz2⟩:=info_parts info3;clear hP hpn;go_enter func65,ntmps65;go_wp2;go_loopw [5,11] (fun v i wr=>∃j:Nat,j<=pn/\i=.int .i64 j/\Hid (wr.ownsRow (w.heap.size+2) 3 1 v j ((ZG (ps.take j) k ag).map (Value.int .i64)))/\wr.heap[w.heap.size+1]?=some (.cells #[.int .i64 k,.int .i64 ag] 27 (0,0))/\Below w.heap.size w wr)(fun _ i _=>pn-(intOf i).toNat);case atStart=>exact⟨0,Zxa _,rfl,Zvc (World.ownsRow_nil _ _ _ _),by(repeat (first|assumption|(refine Zz _ _ ?_;(simp;done))|refine ZB ?_|refine Zy ?_ _|refine ZA ?_ (by simp<;>omega) _)),by go_grown⟩
 case round=>
  obtain⟨j,hj,rfl,hown,M1,hbw⟩:=hrel;obtain⟨A5,c5,rfl⟩:=Zac hown.out;have D1:=bk2 M1;have hsw:=ZI M1;by_cases hlt:j<pn
  ·have hjI:(j:Int)<(pn:Int):=by omega
   obtain⟨p,hp2⟩:∃p,ps[j]?=some p:=⟨_,ZvL (by rw[hpn'.out];exact hlt)⟩;obtain⟨b,o,rfl,hbb,hc⟩:=hP'.out.below hbw j p hp2;have y0:=hc 0 _ rfl;have y1:=hc 1 _ rfl;have y2:=hc 2 _ rfl;have y3:=hc 3 _ rfl;have y4:=hc 4 _ rfl;simp only[ZwK]at y0;have hst:=Zvc (ZkB (k:=k) (ag:=ag) hp2);have hO2:=Zvc (ZN hown.out (ZC wr (.cells #[.string p.nm,.int .i64 p.a0,.int .i64 p.a1,.int .i64 p.c0,.int .i64 p.c1] 86 (0,0))));have hbw2:=Zvc (via hbw (ZC wr (.cells #[.string p.nm,.int .i64 p.a0,.int .i64 p.a1,.int .i64 p.c0,.int .i64 p.c1] 86 (0,0))));have M2:=Zy M1 (.cells #[.string p.nm,.int .i64 p.a0,.int .i64 p.a1,.int .i64 p.c0,.int .i64 p.c1] 86 (0,0));clear hc hp2 hown;by_cases hk:k=0
   ·have hkb:(k==0)=true:=by simp[hk]
    have hst2:=Zvc (show ZG (ps.take (j+1)) k ag=ZG (ps.take j) k ag++[p.a0]by rw[hst.out,if_pos hk]);replace hst:=hst2;clear hst2 hk;go_wp2_with (at_builtin;refine wpList_append_own _ rfl _ _ 28 rfl (w.heap.size+2) 3 i0 (.int .i64 0) 1 8 underlying28 hi hz0 hz1 hz2 rfl (by decide) _ _ _ rfl (hO2.out.alloc _) ⟨wr.heap.size+1,0,none⟩ 1 1 [.int .i64 (p.a0)] rfl rfl ?c1 ?c2 ?c3 ?c4 ?c5 ?_);try (case c1=>exact Zbq _ [.int .i64 (p.a0)] _ (by simp))
    case c2=>first|rfl|(intro u hu;simp at hu;subst hu;rfl)
    case c3=>first|omega|(unfold maxLen;omega)
    case c4=>omega
    case c5=>have:=hbw.size;first|omega|(simp;omega)
    intro v' w3 hown3 hg3 _;have hown4:=Zvc (show w3.ownsRow (w.heap.size+2) 3 1 v' (j+1) ((ZG (ps.take (j+1)) k ag).map (Value.int .i64))from by rw[hst.out,Zv9];exact hown3);have M3:=Zal hg3 (Zy M2 _) (Zak hO2.out (by omega));have hbw3:Below w.heap.size w w3:=ZW (via hbw2.out (ZC _ _)) hg3 fun b e=>by have:=(hO2.out.lt b e).1;omega
    clear hown3 hg3;go_wp2;go_roundw;case rel=>exact⟨j+1,by omega,by go_num,hown4.out,M3,hbw3⟩
    case measure=>simp[intOf]<;>omega
   ·have hkb:(k==0)=false:=by simpa using hk
    by_cases ha:ag<=p.a0
    ·have hst2:=Zvc (show ZG (ps.take (j+1)) k ag=ZG (ps.take j) k ag++[1]by rw[hst.out,if_neg hk,if_pos ha]);replace hst:=hst2;clear hst2 hk;go_wp2_with (at_builtin;refine wpList_append_own _ rfl _ _ 28 rfl (w.heap.size+2) 3 i0 (.int .i64 0) 1 8 underlying28 hi hz0 hz1 hz2 rfl (by decide) _ _ _ rfl (hO2.out.alloc _) ⟨wr.heap.size+1,0,none⟩ 1 1 [.int .i64 (1)] rfl rfl ?c1 ?c2 ?c3 ?c4 ?c5 ?_);try (case c1=>exact Zbq _ [.int .i64 (1)] _ (by simp))
     case c2=>first|rfl|(intro u hu;simp at hu;subst hu;rfl)
     case c3=>first|omega|(unfold maxLen;omega)
     case c4=>omega
     case c5=>have:=hbw.size;first|omega|(simp;omega)
     intro v' w3 hown3 hg3 _;have hown4:=Zvc (show w3.ownsRow (w.heap.size+2) 3 1 v' (j+1) ((ZG (ps.take (j+1)) k ag).map (Value.int .i64))from by rw[hst.out,Zv9];exact hown3);have M3:=Zal hg3 (Zy M2 _) (Zak hO2.out (by omega));have hbw3:Below w.heap.size w w3:=ZW (via hbw2.out (ZC _ _)) hg3 fun b e=>by have:=(hO2.out.lt b e).1;omega
     clear hown3 hg3;go_wp2;go_roundw;case rel=>exact⟨j+1,by omega,by go_num,hown4.out,M3,hbw3⟩
     case measure=>simp[intOf]<;>omega
    ·have hst2:=Zvc (show ZG (ps.take (j+1)) k ag=ZG (ps.take j) k ag++[0]by rw[hst.out,if_neg hk,if_neg ha]);replace hst:=hst2;clear hst2 hk;go_wp2_with (at_builtin;refine wpList_append_own _ rfl _ _ 28 rfl (w.heap.size+2) 3 i0 (.int .i64 0) 1 8 underlying28 hi hz0 hz1 hz2 rfl (by decide) _ _ _ rfl (hO2.out.alloc _) ⟨wr.heap.size+1,0,none⟩ 1 1 [.int .i64 (0)] rfl rfl ?c1 ?c2 ?c3 ?c4 ?c5 ?_);try (case c1=>exact Zbq _ [.int .i64 (0)] _ (by simp))
     case c2=>first|rfl|(intro u hu;simp at hu;subst hu;rfl)
     case c3=>first|omega|(unfold maxLen;omega)
     case c4=>omega
     case c5=>have:=hbw.size;first|omega|(simp;omega)
     intro v' w3 hown3 hg3 _;have hown4:=Zvc (show w3.ownsRow (w.heap.size+2) 3 1 v' (j+1) ((ZG (ps.take (j+1)) k ag).map (Value.int .i64))from by rw[hst.out,Zv9];exact hown3);have M3:=Zal hg3 (Zy M2 _) (Zak hO2.out (by omega));have hbw3:Below w.heap.size w w3:=ZW (via hbw2.out (ZC _ _)) hg3 fun b e=>by have:=(hO2.out.lt b e).1;omega
     clear hown3 hg3;go_wp2;go_roundw;case rel=>exact⟨j+1,by omega,by go_num,hown4.out,M3,hbw3⟩
     case measure=>simp[intOf]<;>omega
  ·obtain rfl:pn=j:=by omega
   have hall:=Zvc (show ps.take pn=ps by rw[<-hpn'.out,ZwB]);go_wp2;go_ret;exact⟨⟨A5,c5,rfl,ZaS (by have:=hown.out;rwa [hall.out]at this) (ZwM _ 2)⟩,hbw⟩
end Go.Proofs
namespace Go.Proofs
open Go.RowKit
variable {n lo hi k ag:Int} {ps:List Pa} {es:List En}
theorem Zbr{es:List Int}:firstE es=0↔∀e∈es,e=0:=by induction es with
 |nil=>simp[firstE]|cons e es ih=>
  unfold firstE;by_cases h:e=0;·rw[if_pos h,ih];simp[h]
  ·rw[if_neg h];simp[h]
theorem ZaG{b:Bool} (hn:n≠0):unl b n=0↔b=true:=by unfold unl;cases b<;>simp[hn]
theorem ZaH:ZX n lo hi=true↔lo<=n/\n<=hi:=by simp[ZX]
theorem ZhR:∀(l:List Int)(k:Nat),Zbb l k=none->∀i,i<l.length->l.getD i 0=0
 |[],_,_,i,h=>by simp at h|e::l,k,h,i,hi=>by
  unfold Zbb at h;split at h;·rename_i he;cases i with
   |zero=>simpa using he|succ i=>simpa using ZhR l (k+1) h i (by simpa using hi)
  ·cases h
theorem ZhS:∀(l:List Int)(k:Nat) {i:Nat} {e:Int},Zbb l k=some (i,e)->e≠0
 |[],_,_,_,h=>by cases h|e::l,k,i,e',h=>by
  unfold Zbb at h;split at h;·exact ZhS l (k+1) h
  ·rename_i he;cases h;exact he
theorem Zf3{m:Int}:ZbI lo hi m=0↔0<=lo/\lo<=m/\0<=hi/\hi<=m/\lo<=hi:=by unfold ZbI;rw[Zbr];simp only[Zwi,Zwt,or_false,forall_eq_or_imp,forall_eq];rw[ZaG (by decide),ZaG (by decide),ZuM,ZaH,ZaH,decide_eq_true_eq];omega
structure BookR (ps:List Pa)(es:List En):Prop where
 n1:1<=ps.length
 n5:ps.length<=5
 e8:es.length<=8
 part:∀i p,ps[i]?=some p->Zah p.nm.data.toList=true/\(ps.take i).any (fun q=>eqS q.nm p.nm)=false/\(0<=p.a0/\p.a0<=400/\0<=p.a1/\p.a1<=400/\p.a0<=p.a1)/\(0<=p.c0/\p.c0<=20/\0<=p.c1/\p.c1<=20/\p.c0<=p.c1)
 ent:∀i x,es[i]?=some x->Zah x.nm.data.toList=true/\(es.take i).any (fun y=>eqS y.nm x.nm)=false/\x.co.length=ps.length/\∀n∈x.mo::x.co,n.natAbs<=20
theorem ZbJ:(ZU ps es).2=0↔BookR ps es:=by
 have hs:Zaz ps.length=0↔1<=ps.length/\ps.length<=5:=by unfold Zaz;rw[Zbr];simp only[Zwi,Zwt,or_false,forall_eq_or_imp,forall_eq];rw[ZaG (by decide),ZaG (by decide),decide_eq_true_eq,decide_eq_true_eq];omega
 have hp:∀i p,Zaq ps i p=0↔Zah p.nm.data.toList=true/\(ps.take i).any (fun q=>eqS q.nm p.nm)=false/\(0<=p.a0/\p.a0<=400/\0<=p.a1/\p.a1<=400/\p.a0<=p.a1)/\(0<=p.c0/\p.c0<=20/\0<=p.c1/\p.c1<=20/\p.c0<=p.c1):=fun i p=>by unfold Zaq;rw[Zbr];simp only[Zwi,Zwt,or_false,forall_eq_or_imp,forall_eq];rw[ZaG (by decide),ZaG (by decide),Zf3,Zf3,ZuT]
 have he:∀i x,ZaW ps.length es i x=0↔Zah x.nm.data.toList=true/\(es.take i).any (fun y=>eqS y.nm x.nm)=false/\x.co.length=ps.length/\∀n∈x.mo::x.co,n.natAbs<=20:=fun i x=>by
  unfold ZaW;rw[Zbr];simp only[Zwi,Zwt,or_false,forall_eq_or_imp,forall_eq];rw[ZaG (by decide),ZaG (by decide),ZaG (by decide),ZaG (by decide),ZuT,ZuT,decide_eq_true_eq];have hsm:∀n:Int,Zbf n 20=true↔n.natAbs<=20:=fun n=>by unfold Zbf;rw[ZaH];omega
  have:(x.mo::x.co).any (fun n=>!Zbf n 20)=false↔∀n∈x.mo::x.co,n.natAbs<=20:=by
   rw[Zvg];constructor;·intro h n hn;have:=h n hn;rw[<-hsm];simpa using this
   ·intro h n hn;have:=(hsm n).2 (h n hn);simp[this]
  rw[this];simp
 unfold ZU;constructor
 ·intro h;split at h;·rename_i h1;exact absurd h h1
  ·rename_i h1;have h1:=hs.1 (by simpa using h1);split at h;·rename_i k e h2;exact absurd h (ZhS _ _ h2)
   ·rename_i h2;split at h;·cases h
    ·rename_i h8;split at h;·rename_i k e h3;exact absurd h (ZhS _ _ h3)
     ·rename_i h3;refine⟨h1.1,h1.2,by omega,fun i p hi=>?_,fun i x hi=>?_⟩;·rw[<-hp,<-ZcE hi];exact ZhR _ _ h2 i (by simpa [ZaL] using (ZvO.1 hi).1)
      ·rw[<-he,<-ZdH hi];exact ZhR _ _ h3 i (by simpa [Zay] using (ZvO.1 hi).1)
 ·intro h;rw[if_neg (by simp[hs.2 ⟨h.n1,h.n5⟩])];rw[ZcD (ZaL ps) 0 fun i hi=>by
   have hi':i<ps.length:=by simpa [ZaL] using hi
   rw[ZcE (ZvL hi'),hp];exact h.part i _ (ZvL hi')];simp only;rw[if_neg (by have:=h.e8;omega)];rw[ZcD (Zay ps.length es) 0 fun i hi=>by
   have hi':i<es.length:=by simpa [Zay] using hi
   rw[ZdH (ZvL hi'),he];exact h.ent i _ (ZvL hi')]
theorem BookR.right(h:BookR ps es):RightE es ps.length:=by refine⟨h.e8,fun x hx=>?_⟩;obtain⟨i,hi⟩:=List.mem_iff_getElem?.1 hx;obtain⟨-,-,h3,h4⟩:=h.ent i x hi;exact⟨h3,fun n hn=>h4 n (Zwj _ hn),h4 _ (by simp)⟩
theorem BookR.worths(h:BookR ps es)(k ag:Int):Small 400 (ZG ps k ag):=by
 intro n hn;obtain⟨p,hp,rfl⟩:=Zwm.1 hn;obtain⟨i,hi⟩:=List.mem_iff_getElem?.1 hp;obtain⟨-,-,h3,-⟩:=h.part i p hi;split;·omega
 ·split<;>decide
theorem Zqf:Zab ps es k ag=0↔BookR ps es/\ZaK k ag=0:=by unfold Zab;rw[Zbr];simp only[Zwi,Zwt,or_false,forall_eq_or_imp,forall_eq];rw[ZbJ]
theorem ZkC:ZaK k ag=0↔(k=0∨k=1)/\0<=ag/\ag<=400:=by unfold ZaK;rw[Zbr];simp only[Zwi,Zwt,or_false,forall_eq_or_imp,forall_eq];rw[ZaG (by decide),ZaG (by decide),ZaH,ZaH];omega
end Go.Proofs
