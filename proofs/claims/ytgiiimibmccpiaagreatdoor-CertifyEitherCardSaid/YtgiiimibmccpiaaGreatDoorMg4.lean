import Derived.Test.YtgiiimibmccpiaaGreatDoorMg3
import Derived.Handy
import Derived.WalkLawsBesides
import Derived.WalkSpells
import Derived.Lib.ConvBytes
import Derived.Lib.Hide
import Derived.StillTail
import Derived.BigQuiet
import Derived.RangeFuncKeeps
import Derived.Deep.OwnRows
import Derived.Laws.AppendOwnNone
import Derived.Deep.AppendLies
set_option linter.unusedVariables false
set_option linter.unusedSimpArgs false
set_option maxRecDepth 100000
set_option maxHeartbeats 16000000
namespace Go
theorem ZwI:type_of% @RowKit.Below.heap_setCell:=@RowKit.Below.heap_setCell
theorem ZwJ:type_of% @RowKit.Below.refl:=@RowKit.Below.refl
theorem ZwQ:type_of% @Bool.false_or:=@Bool.false_or
theorem ZwY:type_of% @Bool.true_or:=@Bool.true_or
theorem Zxg:type_of% @IntWalk.i64_in:=@IntWalk.i64_in
theorem Zxi:type_of% @Lib.hid:=@Lib.hid
theorem Zxm:type_of% @List.any_append:=@List.any_append
theorem Zxn:type_of% @List.any_eq_false:=@List.any_eq_false
theorem Zxo:type_of% @List.any_eq_true:=@List.any_eq_true
theorem Zxp:type_of% @List.append_assoc:=@List.append_assoc
theorem Zxr:type_of% @List.append_toArray:=@List.append_toArray
theorem Zxt:type_of% @List.cons_append:=@List.cons_append
theorem ZxA:type_of% @List.drop_eq_getElem_cons:=@List.drop_eq_getElem_cons
theorem ZxB:type_of% @List.drop_succ_cons:=@List.drop_succ_cons
theorem ZxC:type_of% @List.drop_zero:=@List.drop_zero
theorem ZxE:type_of% @List.eq_nil_of_length_eq_zero:=@List.eq_nil_of_length_eq_zero
theorem ZxJ:type_of% @List.filter_cons:=@List.filter_cons
theorem ZxN:type_of% @List.flatMap_cons:=@List.flatMap_cons
theorem ZxQ:type_of% @List.getD_cons_succ:=@List.getD_cons_succ
theorem ZxR:type_of% @List.getD_cons_zero:=@List.getD_cons_zero
theorem ZxS:type_of% @List.getD_eq_getElem?_getD:=@List.getD_eq_getElem?_getD
theorem ZxT:type_of% @List.getElem?_append_left:=@List.getElem?_append_left
theorem ZxU:type_of% @List.getElem?_append_right:=@List.getElem?_append_right
theorem ZxV:type_of% @List.getElem?_cons_succ:=@List.getElem?_cons_succ
theorem ZxW:type_of% @List.getElem?_cons_zero:=@List.getElem?_cons_zero
theorem ZxX:type_of% @List.getElem?_eq_getElem:=@List.getElem?_eq_getElem
theorem Zx0:type_of% @List.getElem?_eq_some_iff:=@List.getElem?_eq_some_iff
theorem Zx1:type_of% @List.getElem?_map:=@List.getElem?_map
theorem Zx4:type_of% @List.getElem?_replicate:=@List.getElem?_replicate
theorem Zx5:type_of% @List.getElem?_set:=@List.getElem?_set
theorem Zx7:type_of% @List.getElem?_take:=@List.getElem?_take
theorem Zya:type_of% @List.getElem_mem:=@List.getElem_mem
theorem Zyb:type_of% @List.getElem_of_mem:=@List.getElem_of_mem
theorem Zyd:type_of% @List.length_cons:=@List.length_cons
theorem Zyf:type_of% @List.length_map:=@List.length_map
theorem Zyj:type_of% @List.length_take:=@List.length_take
theorem Zyn:type_of% @List.map_append:=@List.map_append
theorem Zyq:type_of% @List.map_map:=@List.map_map
theorem Zyv:type_of% @List.mem_append_left:=@List.mem_append_left
theorem Zyy:type_of% @List.mem_cons_of_mem:=@List.mem_cons_of_mem
theorem ZyB:type_of% @List.mem_iff_getElem?:=@List.mem_iff_getElem?
theorem ZyC:type_of% @List.mem_map:=@List.mem_map
theorem ZyF:type_of% @List.mem_range:=@List.mem_range
theorem ZyJ:type_of% @List.nil_append:=@List.nil_append
theorem ZyN:type_of% @List.not_mem_nil:=@List.not_mem_nil
theorem ZyP:type_of% @List.range_succ:=@List.range_succ
theorem ZyQ:type_of% @List.replicate_succ:=@List.replicate_succ
theorem ZyS:type_of% @List.set_append_right:=@List.set_append_right
theorem ZyT:type_of% @List.size_toArray:=@List.size_toArray
theorem ZyU:type_of% @List.sum_cons:=@List.sum_cons
theorem ZyV:type_of% @List.take_add_one:=@List.take_add_one
theorem ZyW:type_of% @List.take_length:=@List.take_length
theorem ZyX:type_of% @List.take_of_length_le:=@List.take_of_length_le
theorem ZyY:type_of% @List.take_succ_cons:=@List.take_succ_cons
theorem ZyZ:type_of% @List.take_succ_eq_append_getElem:=@List.take_succ_eq_append_getElem
theorem Zy0:type_of% @List.take_zero:=@List.take_zero
theorem Zy3:type_of% @Nat.add_mul:=@Nat.add_mul
theorem Zy4:type_of% @Nat.add_sub_cancel:=@Nat.add_sub_cancel
theorem Zzg:type_of% @Nat.lt_or_ge:=@Nat.lt_or_ge
theorem Zzk:type_of% @Nat.min_eq_left:=@Nat.min_eq_left
theorem Zzl:type_of% @Nat.mul_le_mul:=@Nat.mul_le_mul
theorem Zzm:type_of% @Nat.mul_le_mul_right:=@Nat.mul_le_mul_right
theorem Zzn:type_of% @Nat.mul_one:=@Nat.mul_one
theorem Zzs:type_of% @Nat.pow_le_pow_right:=@Nat.pow_le_pow_right
theorem Zzv:type_of% @Nat.two_pow_pos:=@Nat.two_pow_pos
end Go
namespace Go.Proofs
open Tryz
open Go.RowKit
variable {l:List UInt8} {k:Nat}
theorem Zbm{k:IntKind} {a b:Int} (h:a=b):Ending.returned (.int k a)=.returned (.int k b):=by rw[h]
theorem Zn4(n b:Int)(hb:0<b)(h:n.tmod b<0):n.tdiv b-1=n / b:=by
 have j:=Int.mul_tdiv_add_tmod n b;have m:-b<n.tmod b:=by have:=Int.lt_tmod_of_pos n hb;omega
 rw[eq_comm];have:n=b*(n.tdiv b-1)+(n.tmod b+b):=by rw[Int.mul_sub];omega
 rw[this,Int.mul_add_ediv_left _ _ (by omega),Int.ediv_eq_zero_of_lt (by omega) (by omega)];rw[<-this];omega
theorem Zn5(n b:Int)(hb:0<b)(h:0<=n.tmod b):n.tdiv b=n / b:=by
 have j:=Int.mul_tdiv_add_tmod n b;have m:=Int.tmod_lt_of_pos n hb;rw[eq_comm];have:n=b*(n.tdiv b)+(n.tmod b):=by omega
 rw[this,Int.mul_add_ediv_left _ _ (by omega),Int.ediv_eq_zero_of_lt (by omega) (by omega)];rw[<-this];omega
def Ze2(c:Int):Bool:=(decide (97<=c)&&decide (c<=122))||(decide (65<=c)&&decide (c<=90))
def Zbx(i:Nat)(c:Int):Bool:=Ze2 c||(decide (i≠0)&&(decide (c=45)||(decide (48<=c)&&decide (c<=57))))
def ZcJ(l:List UInt8):Bool:=(List.range l.length).all fun i=>Zbx i ((l.getD i 0).toNat:Int)
def Zam(l:List UInt8):Bool:=decide (1<=l.length)&&decide (l.length<=12)&&ZcJ l
theorem ZjW(l:List UInt8)(h:∀j,j<l.length->Zbx j ((l.getD j 0).toNat:Int)=true):ZcJ l=true:=by unfold ZcJ;rw[Zxl];intro j m;exact h j (ZyF.1 m)
theorem Zn6(l:List UInt8)(j:Nat)(m:j<l.length)(h:Zbx j ((l.getD j 0).toNat:Int)=false):ZcJ l=false:=by unfold ZcJ;rw[List.all_eq_false];exact⟨j,ZyF.2 m,by rw[h];decide⟩
theorem Zhv{c:UInt8} (h:Hid (∀j,j<k->Zbx j ((l.getD j 0).toNat:Int)=true))(p:Hid (l.getD k 0=c))(m:Zbx k (c.toNat:Int)=true):Hid (∀j,j<k+1->Zbx j ((l.getD j 0).toNat:Int)=true):=by
 intro j q;by_cases e:j=k;·subst e;rw[p.out];exact m
 ·exact h.out j (by omega)
theorem Zhw{n:Nat} {c:UInt8} (p:Hid (l.length=n))(m:k<n)(j:Hid (l.getD k 0=c))(h:Zbx k (c.toNat:Int)=false):Zam l=false:=by unfold Zam;rw[Zn6 l k (by rw[p.out];exact m) (by rw[j.out];exact h)];simp
theorem Zhx(k:Nat)(c:Int)(h:(97<=c/\c<=122)∨(65<=c/\c<=90)∨(k≠0/\(c=45∨(48<=c/\c<=57)))):Zbx k c=true:=by unfold Zbx Ze2;simp only[ZwU,ZwL,decide_eq_true_eq];omega
theorem Zhy(k:Nat)(c:Int)(h:¬((97<=c/\c<=122)∨(65<=c/\c<=90)∨(k≠0/\(c=45∨(48<=c/\c<=57))))):Zbx k c=false:=by rw[<-Bool.not_eq_true];unfold Zbx Ze2;simp only[ZwU,ZwL,decide_eq_true_eq];omega
theorem Zn7(l:List UInt8)(n:Nat)(j:l.length=n)(h:ZcJ l=true):Zam l=(!l.isEmpty&&decide ((n:Int)<=12)):=by unfold Zam;rw[h,Bool.and_true,<-j];cases l<;>simp;omega
theorem Zct{a b:Bool} (h:a=b):Ending.returned (.bool a)=.returned (.bool b):=by rw[h]
theorem Ze3(s:ByteArray)(w:World)(hs:s.size<=9223372036854775807):Calls prog 62 #[.string s] w fun e w'=>e=.returned (.bool (Zam s.data.toList))/\Below w.heap.size w w':=by
  have p:=fun W:World=>Lib.run_convert_string_bytes (P:=prog) W 9 152 5 s underlying9 underlying152 underlying5;have G:Hid (Below w.heap.size w (Lib.bytesWorld w 5 s)):=⟨rfl,rfl,rfl,by rw[Lib.bytesWorld_size];omega,fun k H=>Lib.bytesWorld_at_old w 5 s k H⟩;have h:Hid (s.data.toList.length=s.size):=by simp[Hid]
  go_enter func62,ntmps62;go_wp2;clear p;go_loop [9] (fun i=>∃k:Nat,k<=s.size/\i=.int .i64 k/\Hid (∀j,j<k->Zbx j ((s.data.toList.getD j 0).toNat:Int)=true))(fun i=>s.size-(intOf i).toNat);case atStart=>exact⟨0,Zzx _,rfl,fun j E=>by omega⟩
  case round=>
    obtain⟨k,H,rfl,y⟩:=hrel;by_cases u:k<s.size
    · obtain⟨c,z⟩:∃c:UInt8,s.data.toList.getD k 0=c:=⟨_,rfl⟩;have m:=Lib.bytesWorld_cell w 5 s k u;rw[z]at m;have q:=Zxi z;clear z;have I:(0:Int)<=(c.toNat:Int):=by omega
      go_wp2;all_goals first
        |(exfalso;simp at*;omega)
        | (go_round;case rel=>exact⟨k+1,by omega,by go_num,Zhv y q (Zhx _ _ (by simp at*;omega))⟩
           case measure=>simp[intOf];omega)|(go_ret;exact⟨Zct (Zhw (k:=k) h u q (Zhy _ _ (by simp at*;omega))).symm,G.out⟩)
    · have F:k=s.size:=by omega
      subst F;by_cases J:s.toList=[];all_goals go_wp2;go_ret;refine⟨Zct ?_,G.out⟩;have D:ZcJ s.data.toList=true:=ZjW _ (fun j E=>y.out j (by rw[h.out]at E;exact E));rw[Zn7 _ _ h.out D,<-ByteArray.toList_eq]<;>simp[J]
end Go.Proofs
namespace Go.Proofs
open Go.RowKit
variable {w:World} {P:Program} {f:FuncId} {args:Array Value} {v:Value} {a:Act} {id:Nat} {Q:Exit->Act->World->Prop} {l:List Oper}
section
variable {P:Program} {ops:Array Oper} {md:Region.Mode} {C:World->Prop}
def Ze4(P:Program)(md:Region.Mode)(ops:Array Oper)(C:World->Prop)(n:Nat)(L:Array Bool->Act->Prop):Nat->Array Bool->Act->Prop|0,listed,a=>L listed a|f+1,listed,a=>Region.ready md ops listed≠[]/\∀i∈Region.ready md ops listed,i<n/\qOp P ops C i (Ze4 P md ops C n L f (listed.setIfInBounds i true)) a
theorem ZjX{n g:Nat} {L:Array Bool->Act->Prop} {Q':Exit->Act->World->Prop} (hL:∀j a w,C w->L j a->wpAny P md ops Q' g j a w):∀(f:Nat)(j:Array Bool)(a:Act)(w:World),C w->Ze4 P md ops C n L f j a->wpAny P md ops Q' (f+g) j a w|0,j,a,w,hw,h=>by rw[Zzw];exact hL _ _ _ hw h|f+1,j,a,w,hw,h=>by rw[show f+1+g=(f+g)+1 by omega];exact⟨fun u=>absurd u h.1,fun i hi=>wpOp_of_qOp hw (fun p w' m q=>ZjX hL f _ p w' m q) (h.2 i hi).2⟩
theorem Zn8{n i:Nat} {O:Oper} {v:Value} {L:Array Bool->Act->Prop} (hi:ops[i]?=some O)(F:∀(j:Nat)(o:Oper) cs b,ops[j]?=some o->o.op≠.select cs b)(hs:Region.sinkB md ops n=true)(hc:Region.chainB md ops n=true)(hn:n<ops.size)(S:i<n)(G:∀m a,L m a->∀j∈Region.ready md ops m,n<=j):∀(f:Nat)(m:Array Bool)(a:Act),HeadInv md ops n m->(∀j N,ops[j]?=some N->j≠i->m.getD j true=false->(∀e∈N.after,Region.binds md e=true->e.on≠i)->O.apart ops N=true)->i∈Region.ready md ops m->YieldsIn P ops C O v a->Ze4 P md ops C n L f (m.setIfInBounds i true) (a.put O.dst v)->Ze4 P md ops C n L (f+1) m a:=by intro f;induction f with
 |zero=>
  intro m a D _ z hy H;refine⟨fun h=>(by rw[h]at z;cases z),fun j I=>?_⟩;have y:j<n:=by
   rcases Zzg j n with h|h;·exact h
   ·exact absurd I (tail_waits hs hc hn D _ i rfl S (mem_ready.1 z).1 j h)
  refine⟨y,?_⟩;by_cases p:j=i;·subst p;exact hy.qOp hi H
  ·have:=G _ _ H j (ready_mono I p);omega|succ f ih=>
  intro m a D q z hy H;refine⟨fun h=>(by rw[h]at z;cases z),fun j I=>?_⟩;have y:j<n:=by
   rcases Zzg j n with h|h;·exact h
   ·exact absurd I (tail_waits hs hc hn D _ i rfl S (mem_ready.1 z).1 j h)
  refine⟨y,?_⟩;by_cases p:j=i;·subst p;exact hy.qOp hi H
  ·have Z:=(H.2 j (ready_mono I p)).2;obtain⟨E,N,J,R⟩:=mem_ready.1 I;have V:∀e∈N.after,Region.binds md e=true->e.on≠i:=fun e he hb aA=>by have Z:=R e he hb;have h0:=(mem_ready.1 z).1;rw[aA,getD_both h0]at Z;cases Z
   have h2:=qOp_put J (q j N J p E V) (fun cs b=>F i O cs b hi) (fun cs b=>F j N cs b J) hy Z;have u:∀k Y,ops[k]?=some Y->k≠i->(m.setIfInBounds j true).getD k true=false->(∀e∈Y.after,Region.binds md e=true->e.on≠i)->O.apart ops Y=true:=fun k Y hk aB X aC=>by
    refine q k Y hk aB ?_ aC;by_cases U:j=k;·subst U;exact E
    ·rw[getD_set_ne true U]at X;exact X
   refine qOp_mono (fun a' h3=>ih (m.setIfInBounds j true) a' (D.set I y) u (ready_mono z (Ne.symm p)) h3.1 ?_) h2;rw[Array.setIfInBounds_comm _ _ p];exact h3.2
theorem ZjY{n g:Nat} {D:Act->Prop} (p:Region.noSelect ops=true)(hs:Region.sinkB md ops n=true)(G:Region.chainB md ops n=true)(H:n<ops.size):∀(l:List Oper)(k:Nat)(m:Array Bool)(a:Act),(∀j,j<l.length->l[j]?=ops[k+j]?)->k+l.length=n->HeadInv md ops n m->Region.lexHead md ops g l.length k m=true->wpQuiet P ops C D l a->Ze4 P md ops C n (fun m a=>Region.seqB md ops g n m=true/\D a) l.length m a
 |[],k,m,a,_,hk,_,hB,h=>by
  have:k=n:=by simpa using hk
  subst this;exact⟨by simpa [Region.lexHead] using hB,h⟩|o::l,k,m,a,hl,hk,inv,hB,h=>by
  have z:ops[k]?=some o:=by simpa using (hl 0 (by simp)).symm
  simp only[Zyd,Region.lexHead,ZwL]at hB;obtain⟨⟨N,L⟩,E⟩:=hB;have q:k<n:=by simp only[Zyd]at hk;omega
  have u:k∈Region.ready md ops m:=by simpa using N
  have F:qOp P ops C k (wpQuiet P ops C D l) a:=by unfold qOp;simp only[z];exact h
  obtain⟨v,O,I⟩:=yieldsIn_of_qOp z F;exact Zn8 z (Region.noSelect_spec p) hs G H q (fun y R J=>seqB_ready J.1) l.length m a inv (Region.free_spec z L) u O (ZjY p hs G H l (k+1) _ _ (fun j S=>by have:=hl (j+1) (by simp;omega);simpa [Zy1,Zy2 1 j] using this) (by simp only[Zyd]at hk;omega) (inv.set u q) E I)
theorem Zn9{id:Nat} {Q:Exit->Act->World->Prop} {a:Act} {w:World} {l:List Oper} (n:Nat)(hm:P.follows .mixedOrders=true)(hB:Region.lexTailB .any l.toArray n=true)(N:C {w with drawn:=w.drawn+1})(h:wpQuiet P l.toArray C (fun D=>∀w',C w'->wpList P l.toArray Q (l.drop n) D w') (l.take n) a):(Code.region id l.toArray true).wp P Q a w:=by
 simp only[Region.lexTailB,ZwL,decide_eq_true_eq]at hB;obtain⟨⟨⟨⟨y,L⟩,S⟩,O⟩,u⟩:=hB;have R:n<l.length:=by simpa using L
 have m:(l.take n).length=n:=by simp;omega
 have q:(l.drop n).length=l.toArray.size-n:=by simp
 have z:HeadInv .any l.toArray n (Array.replicate l.toArray.size false):=⟨by simp,fun j V _ J=>(by rw[getD_replicate_false]at J;cases J),fun t _ U=>getD_in (by simpa using U) (getD_replicate_false _ _)⟩;have H:=ZjY (C:=C) (P:=P) (md:=.any) (g:=l.toArray.size-n) y S O L (l.take n) 0 _ a (fun j I=>by
  have E:j<n:=by rw[m]at I;exact I
  simp[E]) (by simpa using m) z (by rw[m];exact u) h;refine wp_region_any hm ?_;have:=ZjX (Q':=Q) (g:=l.toArray.size-n) (fun p D w' F G=>by have:=wpAny_of_seq (md:=.any) (Q':=Q) (l.drop n) n p D w' (fun j=>by simp[List.getElem?_drop]) (by rw[q];exact G.1) (G.2 w' F);rwa [q]at this) _ _ _ _ N H;rw[m,show n+(l.toArray.size-n)=l.toArray.size by omega]at this;exact this
end
structure Grew (w:World) where
 val:World
 ok:Below w.heap.size w val
instance (w:World):Nonempty (Grew w):=⟨⟨w,ZwJ _ w⟩⟩
theorem Grew.cell(x:Grew w)(b o:Nat)(h:b<w.heap.size):x.val.cell? ⟨b,o,none⟩=w.cell? ⟨b,o,none⟩:=x.ok.cell (p:=⟨b,o,none⟩) h
theorem Grew.call{x:Grew w} (h:Calls P f args x.val fun e w'=>e=.returned v/\Below x.val.heap.size x.val w'):Calls P f args x.val fun e j=>e=.returned v/\∃y:Grew w,j=y.val:=h.mono fun _ w' ⟨p,m⟩=>⟨p,⟨w',x.ok.trans (m.mono x.ok.size)⟩,rfl⟩
theorem Zd{x:Grew w} (h:Calls P f args x.val fun e w'=>e=.returned v/\x.val=w'):Calls P f args x.val fun e j=>e=.returned v/\∃y:Grew w,j=y.val:=h.mono fun _ _ ⟨p,m⟩=>⟨p,x,m.symm⟩
theorem via{a b:World} (h:Below w.heap.size w a)(j:Below a.heap.size a b):Below w.heap.size w b:=h.trans (j.mono h.size)
theorem ZjZ{a:World} (h:Below w.heap.size w a)(o:Obj):Below w.heap.size w (a.alloc o):=h.alloc h.size o
theorem ZC(w:World)(o:Obj):Below w.heap.size w (w.alloc o):=(ZwJ _ _).alloc (Zza _) o
theorem Zoa(n:Nat)(hm:P.follows .mixedOrders=true)(hB:Region.lexTailB .any l.toArray n=true)(h:wpQuiet P l.toArray (fun w'=>∃x:Grew w,w'=x.val) (fun j=>∀x:Grew w,wpList P l.toArray Q (l.drop n) j x.val) (l.take n) a):(Code.region id l.toArray true).wp P Q a w:=by
 refine Zn9 (C:=fun w'=>∃x:Grew w,w'=x.val) n hm hB ⟨⟨_,(ZwJ _ w).drew⟩,rfl⟩ ?_;have e:(fun j=>∀w',(∃x:Grew w,w'=x.val)->wpList P l.toArray Q (l.drop n) j w')=(fun j=>∀x:Grew w,wpList P l.toArray Q (l.drop n) j x.val):=by funext j;exact propext ⟨fun h x=>h _ ⟨x,rfl⟩,fun h w' ⟨x,m⟩=>m▸h x⟩
 rw[e];exact h
theorem Zob(hm:P.follows .mixedOrders=true)(hB:Region.lexB .any l.toArray=true)(h:wpQuiet P l.toArray (fun w'=>∃x:Grew w,w'=x.val) (fun j=>∀x:Grew w,Q .normal j x.val) l a):(Code.region id l.toArray true).wp P Q a w:=by
 refine wp_region_quiet (C:=fun w'=>∃x:Grew w,w'=x.val) hm hB ⟨⟨_,(ZwJ _ w).drew⟩,rfl⟩ ?_;have e:(fun j=>∀w',(∃x:Grew w,w'=x.val)->Q .normal j w')=(fun j=>∀x:Grew w,Q .normal j x.val):=by funext j;exact propext ⟨fun h x=>h _ ⟨x,rfl⟩,fun h w' ⟨x,m⟩=>m▸h x⟩
 simp only[e];exact h
theorem ZaR(w0:World)(n:Nat)(hm:P.follows .mixedOrders=true)(hB:Region.lexTailB .any l.toArray n=true)(hw:Below w0.heap.size w0 w)(h:(∀(x:Grew w)(b o:Nat),b<w.heap.size->x.val.cell? ⟨b,o,none⟩=w.cell? ⟨b,o,none⟩)->Hid (∀x:Grew w,Below w0.heap.size w0 x.val)->wpQuiet P l.toArray (fun w'=>∃x:Grew w,w'=x.val) (fun m=>∀j,Below w.heap.size w j->Below w0.heap.size w0 j->w.heap.size<=j.heap.size->wpList P l.toArray Q (l.drop n) m j) (l.take n) a):(Code.region id l.toArray true).wp P Q a w:=by
 refine Zoa n hm hB ?_;have e:(fun m=>∀j,Below w.heap.size w j->Below w0.heap.size w0 j->w.heap.size<=j.heap.size->wpList P l.toArray Q (l.drop n) m j)=(fun m=>∀x:Grew w,wpList P l.toArray Q (l.drop n) m x.val):=by funext m;exact propext ⟨fun h x=>h x.val x.ok (via hw x.ok) x.ok.size,fun h j p _ _=>h ⟨j,p⟩⟩
 rw[<-e];exact h (fun x=>x.cell) (fun x=>via hw x.ok)
theorem Zbc(w0:World)(hm:P.follows .mixedOrders=true)(hB:Region.lexB .any l.toArray=true)(hw:Below w0.heap.size w0 w)(h:(∀(x:Grew w)(b o:Nat),b<w.heap.size->x.val.cell? ⟨b,o,none⟩=w.cell? ⟨b,o,none⟩)->Hid (∀x:Grew w,Below w0.heap.size w0 x.val)->wpQuiet P l.toArray (fun w'=>∃x:Grew w,w'=x.val) (fun m=>∀j,Below w.heap.size w j->Below w0.heap.size w0 j->w.heap.size<=j.heap.size->Q .normal m j) l a):(Code.region id l.toArray true).wp P Q a w:=by
 refine Zob hm hB ?_;have e:(fun m=>∀j,Below w.heap.size w j->Below w0.heap.size w0 j->w.heap.size<=j.heap.size->Q .normal m j)=(fun m=>∀x:Grew w,Q .normal m x.val):=by funext m;exact propext ⟨fun h x=>h x.val x.ok (via hw x.ok) x.ok.size,fun h j p _ _=>h ⟨j,p⟩⟩
 rw[<-e];exact h (fun x=>x.cell) (fun x=>via hw x.ok)
end Go.Proofs
namespace Go.Proofs
open Tryz
open Go.RowKit
def Z2(n lo hi:Int):Bool:=decide (lo<=n)&&decide (n<=hi)
theorem Zb0(n lo hi:Int)(w:World):Calls prog 69 #[.int .i64 n,.int .i64 lo,.int .i64 hi] w fun e w'=>e=.returned (.bool (Z2 n lo hi))/\w=w':=by unfold Z2;by_cases h:lo<=n<;>by_cases j:n<=hi;all_goals go_enter func69,ntmps69;go_wp2;go_ret;simp_all
theorem ZdC(n lo hi:Int)(w:World):Calls prog 33 #[.int .i64 n,.int .i64 lo,.int .i64 hi] w fun e w'=>e=.returned (.bool (Z2 n lo hi))/\w=w':=by unfold Z2;by_cases h:lo<=n<;>by_cases j:n<=hi;all_goals go_enter func33,ntmps33;go_wp2;go_ret;simp_all
def unl(b:Bool)(n:Int):Int:=if b then 0 else n
theorem Zbn(b:Bool)(n:Int)(w:World):Calls prog 67 #[.bool b,.int .i64 n] w fun e w'=>e=.returned (.int .i64 (unl b n))/\w=w':=by cases b;all_goals go_enter func67,ntmps67;go_wp2;go_ret;simp_all[unl]
def Z1:List Int->Int|[]=>0|e::l=>if e=0 then Z1 l else e
theorem Zj0(es:List Int):∀k,(∀j,j<k->es.getD j 0=0)->Z1 es=Z1 (es.drop k):=by intro k;induction k generalizing es with|zero=>intro _;simp|succ k ih=>intro h;cases es with|nil=>simp|cons e l=>
   have m:e=0:=by simpa using h 0 (by omega)
   simp only[Z1,m,if_true,ZxB];exact ih l (fun j p=>by simpa using h (j+1) (by omega))
theorem Zoc(es:List Int)(k:Nat)(m:k<es.length)(h:∀j,j<k->es.getD j 0=0)(hne:es.getD k 0≠0):Z1 es=es.getD k 0:=by
 rw[Zj0 es k h,ZxA m];have:es.getD k 0=es[k]:=by simp[m]
 simp only[Z1];rw[if_neg (by rw[<-this];exact hne),this]
theorem Zod(es:List Int)(h:∀j,j<es.length->es.getD j 0=0):Z1 es=0:=by rw[Zj0 es es.length h];simp[Z1]
theorem Zj1(es:List Int)(b:Nat)(w:World)(I:es.length<=100)(E:∀j,j<es.length->w.cell? ⟨b,j,none⟩=some (.int .i64 (es.getD j 0))):Calls prog 65 #[.slice (some ⟨b,0,none⟩) es.length es.length] w fun e w'=>e=.returned (.int .i64 (Z1 es))/\w=w':=by
 have u:=Zxi E;clear E;go_enter func65,ntmps65;go_wp2;go_loop [7] (fun i=>∃k:Nat,k<=es.length/\i=.int .i64 k/\Hid (∀j,j<k->es.getD j 0=0))(fun i=>es.length-(intOf i).toNat);case atStart=>exact⟨0,Zzx _,rfl,fun j F=>by omega⟩
 case round=>
  obtain⟨k,H,rfl,D⟩:=hrel;by_cases p:k<es.length
  ·have y:=u.out k p;obtain⟨v,z⟩:∃v,es.getD k 0=v:=⟨_,rfl⟩;rw[z]at y;have h:=Zxi z;clear z;by_cases m:v=0
   ·have G : (v != 0) = false := by simp [m]
    have q:=Zxi m;clear m;go_wp2;go_round;case rel=>exact⟨k+1,by omega,by go_num,fun j F=>by
     by_cases e:j=k;·subst e;rw[h.out];exact q.out
     ·exact D.out j (by omega)⟩
    case measure=>simp[intOf];omega
   ·have G : (v != 0) = true := by simp [m]
    go_wp2;go_ret;exact⟨Zbm (by rw[Zoc es k p D.out (by rw[h.out];exact m)];exact h.out.symm),rfl⟩
  ·go_wp2;go_ret;exact⟨Zbm (Zod es (fun j F=>D.out j (by omega))).symm,rfl⟩
theorem ZdD(a b:Int)(w:World):Calls prog 65 #[.slice (some ⟨w.heap.size,0,none⟩) 2 2] (w.alloc (.cells #[.int .i64 a,.int .i64 b] 38)) fun e w'=>e=.returned (.int .i64 (Z1 [a,b]))/\w.alloc (.cells #[.int .i64 a,.int .i64 b] 38)=w':=Zj1 [a,b] w.heap.size _ (by simp) (fun j h=>by rw[World.cell?_alloc_at _ _ _ _ rfl];match j,h with|0,_=>rfl|1,_=>rfl)
theorem Zcd(a b c d:Int)(w:World):Calls prog 65 #[.slice (some ⟨w.heap.size,0,none⟩) 4 4] (w.alloc (.cells #[.int .i64 a,.int .i64 b,.int .i64 c,.int .i64 d] 38)) fun e w'=>e=.returned (.int .i64 (Z1 [a,b,c,d]))/\w.alloc (.cells #[.int .i64 a,.int .i64 b,.int .i64 c,.int .i64 d] 38)=w':=Zj1 [a,b,c,d] w.heap.size _ (by simp) (fun j h=>by rw[World.cell?_alloc_at _ _ _ _ rfl];match j,h with|0,_=>rfl|1,_=>rfl|2,_=>rfl|3,_=>rfl)
end Go.Proofs
namespace Go.Proofs
open Go.RowKit
def At{α:Type} (sz:Nat)(cs:α->List Value)(w:World)(A:Option Addr)(l:List α):Prop:=∀k x,l[k]?=some x->∃b o,A=some ⟨b,o,none⟩/\b<w.heap.size/\∀j v,(cs x)[j]?=some v->w.cell? ⟨b,o+k*sz+j,none⟩=some v
theorem At.below{α:Type} {sz:Nat} {cs:α->List Value} {w w':World} {A:Option Addr} {l:List α} (h:At sz cs w A l)(hb:Below w.heap.size w w'):At sz cs w' A l:=by intro k x z;obtain⟨b,o,q,m,u⟩:=h k x z;exact⟨b,o,q,Zzf m hb.size,fun j v y=>(hb.cell (p:=⟨b,o+k*sz+j,none⟩) m).trans (u j v y)⟩
def eqS(a b:ByteArray):Bool:=a.toList==b.toList
variable {b:Nat} {o:Obj} {w:World} {cs:Array Value} {t:TypeId} {f:Nat×Nat} {v0 v1 v2 v3 v4:Value}
theorem Zw{W j:World} (hb:Below W.heap.size W j)(h:W.heap[b]?=some o):j.heap[b]?=some o:=(hb.block b (lt_of_block h)).trans h
theorem Zz(h:w.heap[b]?=some o)(o':Obj):(w.alloc o').heap[b]?=some o:=(RowKit.Below.heap_alloc w o' b (lt_of_block h)).trans h
theorem ZD(h:w.heap[b]?=some o):w.drew.heap[b]?=some o:=h
theorem ZA(w:World)(o:Obj) {n:Nat} (h:n=w.heap.size):(w.alloc o).heap[n]?=some o:=by subst h;exact heap_alloc_new w o
theorem ZB(h:w.heap[b]?=some o) {p:Addr} (hne:b≠p.block)(u:Value):(w.setCell p u).heap[b]?=some o:=(ZwI w p u b hne).trans h
theorem Zbd(h:w.heap[b]?=some (.cells cs t f))(o:Nat):w.cell? ⟨b,o,none⟩=cs[o]?:=by simp[World.cell?,h]
theorem Zbe(h:w.heap[b]?=some (.cells cs t (0,0)))(o:Nat):w.frozen? ⟨b,o,none⟩=false:=by simp[World.frozen?,h]
theorem ZG{o:Nat} {j:Array Value} (h:w.heap[b]?=some (.cells cs t f))(u:Value)(q:cs.setIfInBounds o u=j):(w.setCell ⟨b,o,none⟩ u).heap[b]?=some (.cells j t f):=by
 subst q;have m:=lt_of_block h;have p:w.heap[b]=.cells cs t f:=by simpa [Zwk m] using h
 show (w.heap.modify b _)[b]?=_;rw[Zwk (by simpa using m),Array.getElem_modify_self,p];rfl
theorem ZI(h:w.heap[b]?=some o):b<w.heap.size:=lt_of_block h
theorem bk1(h:w.heap[b]?=some (.cells #[v0] t (0,0))):w.cell? ⟨b,0,none⟩=some v0/\w.frozen? ⟨b,0,none⟩=false/\b<w.heap.size:=⟨Zbd h 0,Zbe h 0,ZI h⟩
theorem bk2(h:w.heap[b]?=some (.cells #[v0,v1] t (0,0))):w.cell? ⟨b,0,none⟩=some v0/\w.cell? ⟨b,1,none⟩=some v1/\w.frozen? ⟨b,0,none⟩=false/\w.frozen? ⟨b,1,none⟩=false/\b<w.heap.size:=⟨Zbd h 0,Zbd h 1,Zbe h 0,Zbe h 1,ZI h⟩
theorem bk3(h:w.heap[b]?=some (.cells #[v0,v1,v2] t (0,0))):w.cell? ⟨b,0,none⟩=some v0/\w.cell? ⟨b,1,none⟩=some v1/\w.cell? ⟨b,2,none⟩=some v2/\w.frozen? ⟨b,0,none⟩=false/\w.frozen? ⟨b,1,none⟩=false/\w.frozen? ⟨b,2,none⟩=false/\b<w.heap.size:=⟨Zbd h 0,Zbd h 1,Zbd h 2,Zbe h 0,Zbe h 1,Zbe h 2,ZI h⟩
theorem bk5(h:w.heap[b]?=some (.cells #[v0,v1,v2,v3,v4] t (0,0))):w.cell? ⟨b,0,none⟩=some v0/\w.cell? ⟨b,1,none⟩=some v1/\w.cell? ⟨b,2,none⟩=some v2/\w.cell? ⟨b,3,none⟩=some v3/\w.cell? ⟨b,4,none⟩=some v4/\w.frozen? ⟨b,0,none⟩=false/\w.frozen? ⟨b,1,none⟩=false/\w.frozen? ⟨b,2,none⟩=false/\w.frozen? ⟨b,3,none⟩=false/\w.frozen? ⟨b,4,none⟩=false/\b<w.heap.size:=⟨Zbd h 0,Zbd h 1,Zbd h 2,Zbd h 3,Zbd h 4,Zbe h 0,Zbe h 1,Zbe h 2,Zbe h 3,Zbe h 4,ZI h⟩
theorem bk7{j m:Value} (h:w.heap[b]?=some (.cells #[v0,v1,v2,v3,v4,j,m] t (0,0))):w.cell? ⟨b,0,none⟩=some v0/\w.cell? ⟨b,1,none⟩=some v1/\w.cell? ⟨b,2,none⟩=some v2/\w.cell? ⟨b,3,none⟩=some v3/\w.cell? ⟨b,4,none⟩=some v4/\w.cell? ⟨b,5,none⟩=some j/\w.cell? ⟨b,6,none⟩=some m/\w.frozen? ⟨b,0,none⟩=false/\w.frozen? ⟨b,1,none⟩=false/\w.frozen? ⟨b,2,none⟩=false/\w.frozen? ⟨b,3,none⟩=false/\w.frozen? ⟨b,4,none⟩=false/\w.frozen? ⟨b,5,none⟩=false/\w.frozen? ⟨b,6,none⟩=false/\b<w.heap.size:=⟨Zbd h 0,Zbd h 1,Zbd h 2,Zbd h 3,Zbd h 4,Zbd h 5,Zbd h 6,Zbe h 0,Zbe h 1,Zbe h 2,Zbe h 3,Zbe h 4,Zbe h 5,Zbe h 6,ZI h⟩
theorem Zbf{P:Program} {c:Code} {Q:Exit->Act->World->Prop} {a:Act} {w:World} (h:∀W,W=w->c.wp P Q a W):c.wp P Q a w:=h w rfl
variable {T:TypeId} {W:World} {B k:Nat} {l:List Int}
def Zax(l:List Int):Array Value:=(l.map (Value.int .i64)).toArray
def ZJ(T:TypeId)(W:World)(B:Nat)(l:List Int):Prop:=W.heap[B]?=some (.cells (Zax l) T (0,0))
theorem Zj2(l:List Int):(Zax l).size=l.length:=by simp[Zax]
theorem Ze5(l:List Int)(k:Nat):(Zax l)[k]?=l[k]?.map (Value.int .i64):=by simp[Zax]
theorem Zhz(l:List Int)(k:Nat)(x:Int):(Zax l).setIfInBounds k (.int .i64 x)=Zax (l.set k x):=by
 apply Zwe;intro j;rw[Ze5,Zwt,Zx5];simp only[Zj2,Ze5];by_cases h:k=j
 ·subst h;by_cases m:k<l.length;·simp[m]
  ·simp[m]
 ·simp[h]
theorem ZJ.load(h:ZJ T W B l) {x:Int} (hx:l[k]?=some x):W.cell? ⟨B,k,none⟩=some (.int .i64 x):=by unfold ZJ at h;unfold World.cell?;rw[h];simp[Ze5,hx]
theorem ZJ.loadD(h:ZJ T W B l)(j:k<l.length):W.cell? ⟨B,k,none⟩=some (.int .i64 (l.getD k 0)):=by rw[ZxS,ZxX j];exact h.load (ZxX j)
theorem ZJ.frozen(h:ZJ T W B l)(k:Nat):W.frozen? ⟨B,k,none⟩=false:=by unfold ZJ at h;unfold World.frozen?;rw[h];simp
theorem ZJ.size(h:ZJ T W B l):B<W.heap.size:=(Zwm.1 h).1
theorem ZJ.store(h:ZJ T W B l)(k:Nat)(x:Int):ZJ T (W.setCell ⟨B,k,none⟩ (.int .i64 x)) B (l.set k x):=by have j:=h.size;unfold ZJ at h |-;simp only[World.setCell];rw[Zwp,if_pos rfl,h];simp[Zhz]
theorem ZJ.other(h:ZJ T W B l)(p:Addr)(v:Value)(hp:p.block≠B):ZJ T (W.setCell p v) B l:=by unfold ZJ at h |-;rw[<-h];exact ZwI W p v B (fun e=>hp e.symm)
theorem ZJ.alloc(h:ZJ T W B l)(o:Obj):ZJ T (W.alloc o) B l:=by have:=h.size;unfold ZJ at h |-;exact(RowKit.Below.heap_alloc W o B this).trans h
theorem ZJ.below{j:World} (h:ZJ T W B l)(hb:Below W.heap.size W j):ZJ T j B l:=by have:=h.size;unfold ZJ at h |-;exact(hb.block B this).trans h
theorem ZJ.new(W:World)(l:List Int):ZJ T (W.alloc (.cells (Zax l) T (0,0))) W.heap.size l:=ZA W _ rfl
theorem Zoe(n:Nat):madeCells #[.int .i64 0] n=Zax (List.replicate n 0):=by
 apply Zwe;intro j;rw[Ze5];by_cases h:j<n;·simp[madeCells,h,Nat.mod_one]
 ·simp[madeCells,h]
end Go.Proofs
namespace Go.Proofs
def cmb:Nat->Nat->Nat->List (List Nat)|_,_,0=>[[]]|_,0,_+1=>[]|a,len+1,k+1=>(cmb (a+1) len k).map (a::·)++cmb (a+1) len (k+1)
def Zc4:Nat->List Nat->Option (List Nat)|_,[]=>none|m,x::t=>match Zc4 (m+1) t with|some t'=>some (x::t')|none=>if x=m then none else some (List.range' (x+1) (t.length+1))
theorem ZfW:∀(a j k:Nat),j<k->cmb a j k=[]|_,_,0,h=>by omega|_,0,_+1,_=>rfl|a,j+1,k+1,h=>by simp only[cmb];rw[ZfW (a+1) j k (by omega),ZfW (a+1) j (k+1) (by omega)];rfl
theorem ZhA:∀(a j k:Nat),k<=j->(cmb a j k)[0]?=some (List.range' a k)|_,_,0,_=>by simp[cmb]|_,0,k+1,h=>by omega|a,j+1,k+1,h=>by have:=ZhA (a+1) j k (by omega);simp only[cmb];rw[ZxT (by rw[Zyf];exact(Zx0.1 this).1),Zx1,this];rfl
theorem Zee:∀(a j k:Nat),∀l∈cmb a j k,l.length=k
 |_,_,0,l,h=>by simp[cmb]at h;simp[h]|_,0,k+1,l,h=>by cases h|a,j+1,k+1,l,h=>by
  simp only[cmb,Zyu,ZyC]at h;rcases h with⟨t,m,rfl⟩|h;·rw[Zyd,Zee (a+1) j k t m]
  ·exact Zee (a+1) j (k+1) l h
theorem ZhB:∀(a j k m:Nat),m+k=a+j->∀i l,(cmb a j k)[i]?=some l->Zc4 m l=(cmb a j k)[i+1]?
 |a,j,0,m,_,i,l,h=>by simp only[cmb]at h |-;cases i with|zero=>simp at h;subst h;rfl|succ i=>simp at h
 |_,0,k+1,m,_,i,l,h=>by simp[cmb]at h|a,j+1,k+1,m,hm,i,l,h=>by
  have u:=Zee (a+1) j k;simp only[cmb]at h |-;by_cases hi:i<(cmb (a+1) j k).length;·rw[ZxT (by rw[Zyf];exact hi),Zx1]at h;obtain⟨t,E,rfl⟩:=ZzC.1 h;have G:=ZhB (a+1) j k (m+1) (by omega) i t E;have z:t.length=k:=u t (ZyD E);unfold Zc4;rw[G];cases y:(cmb (a+1) j k)[i+1]? with
   |some t'=>rw[ZxT (by rw[Zyf];exact(Zx0.1 y).1),Zx1,y];rfl|none=>
    have q:=ZxZ.1 y;rw[ZxU (by rw[Zyf];exact q),Zyf,show i+1-(cmb (a+1) j k).length=0 by omega];by_cases p:a=m;·rw[if_pos p,ZfW (a+1) j (k+1) (by omega)];rfl
    ·have F:k+1<=j:=by
      rcases Zzg j k with D|D;·rw[ZfW (a+1) j k D]at hi;cases hi
      ·omega
     rw[if_neg p,ZhA (a+1) j (k+1) F,z]
  ·rw[ZxU (by rw[Zyf];omega),Zyf]at h;rw[ZxU (by rw[Zyf];omega),Zyf,show i+1-(cmb (a+1) j k).length=(i-(cmb (a+1) j k).length)+1 by omega];exact ZhB (a+1) j (k+1) m (by omega) _ l h
def Asc(a b:Nat):List Nat->Prop|[]=>True|x::t=>a<=x/\x<b/\Asc (x+1) b t
theorem Asc.mono{b:Nat}:∀{l:List Nat} {a a':Nat},a'<=a->Asc a b l->Asc a' b l|[],_,_,_,_=>trivial|_::_,_,_,h,hl=>⟨Zzb h hl.1,hl.2⟩
theorem Asc.lt{b:Nat}:∀{l:List Nat} {a:Nat},Asc a b l->∀x∈l,a<=x/\x<b
 |[],_,_,_,h=>by cases h|y::t,a,hl,x,h=>by
  rcases Zyx.1 h with rfl|h;·exact⟨hl.1,hl.2.1⟩
  ·have:=Asc.lt hl.2.2 x h;have:=hl.1;exact⟨by omega,by omega⟩
theorem ZdE:∀(a j k:Nat),∀l∈cmb a j k,Asc a (a+j) l
 |_,_,0,l,h=>by simp[cmb]at h;subst h;trivial|_,0,k+1,l,h=>by cases h|a,j+1,k+1,l,h=>by
  simp only[cmb,Zyu,ZyC]at h;rcases h with⟨t,m,rfl⟩|h;·have:=ZdE (a+1) j k t m;rw[show a+1+j=a+(j+1)by omega]at this;exact⟨Zza _,by omega,this⟩
  ·have:=ZdE (a+1) j (k+1) l h;rw[show a+1+j=a+(j+1)by omega]at this;exact this.mono (by omega)
theorem ZhC:∀(a j:Nat)(l:List Nat),Asc a (a+j) l->l∈cmb a j l.length
 |a,j,[],_=>by cases j<;>simp[cmb]|a,0,x::t,h=>by have:=h.1;have:=h.2.1;omega|a,j+1,x::t,h=>by
  rw[Zyd];simp only[cmb,Zyu,ZyC];by_cases m:x=a;·subst m;exact .inl ⟨t,ZhC (x+1) j t (by have:=h.2.2;rwa [show x+(j+1)=x+1+j by omega]at this),rfl⟩
  ·right;have:=ZhC (a+1) j (x::t) ⟨by have:=h.1;omega,by have:=h.2.1;omega,by have:=h.2.2;rwa [show a+(j+1)=a+1+j by omega]at this⟩;rwa [Zyd]at this
theorem ZhD:∀(m:Nat)(l:List Nat),(∀i x,l[i]?=some x->x=m+i)->Zc4 m l=none|_,[],_=>rfl|m,x::t,h=>by unfold Zc4;rw[ZhD (m+1) t (fun i y j=>by have:=h (i+1) y j;omega)];exact if_pos (h 0 x rfl)
theorem Zj3:∀(m:Nat)(l:List Nat) (j x:Nat),l[j]?=some x->x≠m+j->(∀i y,j<i->l[i]?=some y->y=m+i)->Zc4 m l=some (l.take j++List.range' (x+1) (l.length-j))|_,[],j,x,h,_,_=>by simp at h|m,y::t,0,x,h,hx,hl=>by simp at h;subst h;unfold Zc4;rw[ZhD (m+1) t (fun i z p=>by have:=hl (i+1) z (by omega) p;omega)];simp only;rw[if_neg (by simpa using hx)];simp|m,y::t,j+1,x,h,hx,hl=>by unfold Zc4;rw[Zj3 (m+1) t j x (by simpa using h) (by omega) (fun i z hi p=>by have:=hl (i+1) z (by omega) (by simpa using p);omega)];simp
def pop:Nat->Nat->Nat|0,_=>0|k+1,s=>pop k s+(s>>>k)%2
def ZaJ(f:Nat->Nat->Int)(M:List Int)(row set:Nat):Nat->Int->Int->Int|0,acc,_=>acc|c+1,acc,sg=>if (set>>>c)%2=0 then ZaJ f M row set c acc sg else ZaJ f M row set c (if M.getD (set-2^c) 0=0 then acc else acc+sg*f row c*M.getD (set-2^c) 0) (-sg)
def Zb1(f:Nat->Nat->Int)(n:Nat)(M:List Int)(set:Nat):Int:=ZaJ f M (pop n set-1) set n 0 1
def dpM(f:Nat->Nat->Int)(n:Nat):Nat->List Int|0=>[1]|s+1=>dpM f n s++[Zb1 f n (dpM f n s) (s+1)]
def ZU(f:Nat->Nat->Int)(n:Nat):Int:=(dpM f n (2^n-1)).getD (2^n-1) 0
theorem ZcK(f:Nat->Nat->Int)(n:Nat):∀s,(dpM f n s).length=s+1|0=>rfl|s+1=>by simp[dpM,ZcK f n s]
theorem Zof(m acc x:Int):(if m=0 then acc else acc+x*m)=acc+x*m:=by
 split;·rename_i h;rw[h];omega
 ·rfl
def minorD(f:Nat->Nat->Int)(M:List Int)(row set:Nat):Nat->Int->Int->Int|0,acc,_=>acc|c+1,acc,sg=>if (set>>>c)%2=0 then minorD f M row set c acc sg else minorD f M row set c (acc+sg*f row c*M.getD (set-2^c) 0) (-sg)
theorem ZhE(f:Nat->Nat->Int)(M:List Int)(row set:Nat):∀c acc h,ZaJ f M row set c acc h=minorD f M row set c acc h|0,_,_=>rfl|c+1,acc,h=>by unfold ZaJ minorD;rw[ZhE f M row set c,ZhE f M row set c,Zof]
def dpN(f:Nat->Nat->Int)(n:Nat):Nat->List Int|0=>[1]|s+1=>dpN f n s++[minorD f (dpN f n s) (pop n (s+1)-1) (s+1) n 0 1]
theorem Zef(f:Nat->Nat->Int)(n:Nat):∀s,dpM f n s=dpN f n s|0=>rfl|s+1=>by unfold dpM dpN Zb1;rw[Zef f n s,ZhE]
def d2(f:Nat->Nat->Int)(i j:Nat):Int:=f 0 i*f 1 j-f 0 j*f 1 i
def d3(f:Nat->Nat->Int)(i j k:Nat):Int:=f 2 k*d2 f i j-f 2 j*d2 f i k+f 2 i*d2 f j k
def d4(f:Nat->Nat->Int)(i j k l:Nat):Int:=f 3 l*d3 f i j k-f 3 k*d3 f i j l+f 3 j*d3 f i k l-f 3 i*d3 f j k l
def d5(f:Nat->Nat->Int)(i j k l m:Nat):Int:=f 4 m*d4 f i j k l-f 4 l*d4 f i j k m+f 4 k*d4 f i j l m-f 4 j*d4 f i k l m+f 4 i*d4 f j k l m
theorem detP1(f:Nat->Nat->Int):ZU f 1=f 0 0:=by simp[ZU,Zef,dpN,minorD,pop]
theorem detP2(f:Nat->Nat->Int):ZU f 2=d2 f 0 1:=by simp[ZU,Zef,dpN,minorD,pop,d2];grind
theorem detP3(f:Nat->Nat->Int):ZU f 3=d3 f 0 1 2:=by simp[ZU,Zef,dpN,minorD,pop,d3,d2];grind
theorem detP4(f:Nat->Nat->Int):ZU f 4=d4 f 0 1 2 3:=by simp[ZU,Zef,dpN,minorD,pop,d4,d3,d2];grind
theorem detP5(f:Nat->Nat->Int):ZU f 5=d5 f 0 1 2 3 4:=by simp[ZU,Zef,dpN,minorD,pop,d5,d4,d3,d2];grind
def repl(f:Nat->Nat->Int)(b:Nat->Int)(c:Nat)(i j:Nat):Int:=if j=c then b i else f i j
theorem Zj4(f:Nat->Nat->Int)(b:Nat->Int):f 0 0*ZU (repl f b 0) 1=b 0*ZU f 1:=by simp[detP1,repl];grind
theorem Zj5(f:Nat->Nat->Int)(b:Nat->Int)(i:Nat)(hi:i<2):f i 0*ZU (repl f b 0) 2+f i 1*ZU (repl f b 1) 2=b i*ZU f 2:=by simp[detP2,repl,d2];rcases i with _|_|i<;>first|grind|omega
theorem Zj6(f:Nat->Nat->Int)(b:Nat->Int)(i:Nat)(hi:i<3):f i 0*ZU (repl f b 0) 3+f i 1*ZU (repl f b 1) 3+f i 2*ZU (repl f b 2) 3=b i*ZU f 3:=by simp[detP3,repl,d3,d2];rcases i with _|_|_|i<;>first|grind|omega
theorem Zj7(f:Nat->Nat->Int)(b:Nat->Int)(i:Nat)(hi:i<4):f i 0*ZU (repl f b 0) 4+f i 1*ZU (repl f b 1) 4+f i 2*ZU (repl f b 2) 4+f i 3*ZU (repl f b 3) 4=b i*ZU f 4:=by simp[detP4,repl,d4,d3,d2];rcases i with _|_|_|_|i<;>first|grind|omega
theorem Zj8(f:Nat->Nat->Int)(b:Nat->Int)(i:Nat)(hi:i<5):f i 0*ZU (repl f b 0) 5+f i 1*ZU (repl f b 1) 5+f i 2*ZU (repl f b 2) 5+f i 3*ZU (repl f b 3) 5+f i 4*ZU (repl f b 4) 5=b i*ZU f 5:=by simp[detP5,repl,d5,d4,d3,d2];rcases i with _|_|_|_|_|i<;>first|grind|omega
abbrev Ex:=List Int×Int
def entR(r:List (List Int))(i j:Nat):Int:=(r.getD i []).getD j 0
def colF(r:List (List Int))(h:Option Nat)(i c:Nat):Int:=entR r i (if h=some c then r.length else c)
def ZR(r:List (List Int))(h:Option Nat):Int:=ZU (colF r h) r.length
def ZaQ(d:Int):Int:=if d<0 then -1 else 1
def ZaK(r:List (List Int)):Option (List Int×Int):=if ZR r none=0 then none else some ((List.range r.length).map fun i=>ZaQ (ZR r none)*ZR r (some i),ZaQ (ZR r none)*ZR r none)
def dotL:List Int->List Int->Int|a::x,b::y=>a*b+dotL x y|_,_=>0
def putsL:List Ex->List Int->Nat->Int|x::es,w::W,k=>w*x.1.getD k 0+putsL es W k|_,_,_=>0
def spentL:List Ex->List Int->Int|x::es,w::W=>w*x.2+spentL es W|_,_=>0
def gcdL(g:Nat):List Int->Nat|[]=>g|n::l=>gcdL (Nat.gcd g n.natAbs) l
def zerosL(np:Nat)(l:List Nat):List Nat:=l.filter (·<np)
def tightL(np:Nat)(l:List Nat):List Nat:=(l.filter (np<=·)).map (· - np)
def ZaA(n i:Nat):List Int:=(List.range n).map fun j=>if j=i then 1 else 0
def Zai(np:Nat)(es:List Ex)(z t:List Nat):List (List Int):=List.replicate (np+1) 1::(z.map (fun i=>ZaA (np+1) i)++t.map fun i=>(es.getD i default).1++[(es.getD i default).2])
def ZaY(np:Nat)(es:List Ex)(z t:List Nat):Option (List Int×Int):=match ZaK (Zai np es z t)with|none=>none|some (l,den)=>if l.any (·<0)then none else if es.any (fun x=>!decide (dotL x.1 l<=x.2*den))then none else some (l.map (· / (gcdL 0 (den::l):Int)),den / (gcdL 0 (den::l):Int))
def proofRow(es:List Ex)(t:List Nat)(k:Nat)(w:Int):List Int:=1::(t.map (fun i=>-((es.getD i default).1.getD k 0))++[w])
def proofRows(es:List Ex)(z t:List Nat):Nat->List Int->List (List Int)|_,[]=>[]|k,w::ws=>if k∈z then proofRows es z t (k+1) ws else proofRow es t k w::proofRows es z t (k+1) ws
def putW(l:List Int):Nat->List Nat->List Int->List Int|_,[],W=>W|k,i::t,W=>putW l (k+1) t (W.set i (l.getD (k+1) 0))
def Zce(es:List Ex)(den lev:Int)(W:List Int):Nat->List Int->Bool|_,[]=>true|k,w::ws=>decide (lev<=w*den+putsL es W k)&&Zce es den lev W (k+1) ws
structure Prf where
 den:Int
 lev:Int
 W:List Int deriving Inhabited
def ZbH(es:List Ex)(ws:List Int)(z t:List Nat):Option Prf:=match ZaK (proofRows es z t 0 ws)with|none=>none|some (l,den)=>if (List.range t.length).any (fun k=>l.getD (k+1) 0<0)then none else let W:=putW l 0 t (List.replicate es.length 0);if Zce es den (l.getD 0 0) W 0 ws then let g:Int:=(gcdL 0 (den::l.getD 0 0::W):Int);some {den:=den / g,lev:=l.getD 0 0 / g,W:=W.map (· / g)} else none
def ZbT(np:Nat)(es:List Ex)(ws:List Int)(l:List Nat):Option (List Int×Int×Prf):=match ZbH es ws (zerosL np l) (tightL np l)with|none=>none|some p=>match ZaY np es (zerosL np l) (tightL np l)with|none=>none|some (m,d)=>some (m,d,p)
def solvedL(np:Nat) (es:List Ex) (ws:List Int):Option (List Int×Int×Prf):=(cmb 0 (np+es.length) (np-1)).findSome? (ZbT np es ws)
theorem Zog(f:Nat->Nat->Int)(b:Nat->Int)(n:Nat)(h:n<=5)(i:Nat)(hi:i<n):((List.range n).map fun c=>f i c*ZU (repl f b c) n).sum=b i*ZU f n:=by
 rcases n with _|_|_|_|_|_|n;·omega
 ·obtain rfl:i=0:=by omega
  simpa using Zj4 f b
 ·simpa [ZyP] using Zj5 f b i hi
 ·simpa [ZyP,Int.add_assoc] using Zj6 f b i hi
 ·simpa [ZyP,Int.add_assoc] using Zj7 f b i hi
 ·simpa [ZyP,Int.add_assoc] using Zj8 f b i hi
 ·omega
theorem Zoh(r:List (List Int)) (c:Nat):colF r (some c)=repl (colF r none) (fun i=>entR r i r.length) c:=by
 funext i j;unfold colF repl;by_cases h:j=c;·subst h;simp
 ·have:¬(c=j):=fun e=>h e.symm;simp[this,h]
theorem Zj9(row:List Int)(g:Nat->Int):∀(n:Nat)(row:List Int)(g:Nat->Int),n<=row.length->dotL row ((List.range n).map g)=((List.range n).map fun c=>row.getD c 0*g c).sum|0,row,g,_=>by cases row<;>simp[dotL]|n+1,[],g,h=>by simp at h|n+1,x::row,g,h=>by rw[List.range_succ_eq_map];simp only[Zyp,Zyq,dotL,ZyU,ZxR];have:=Zj9 row g n row (g ∘ Nat.succ) (by simpa using h);rw[show g ∘ Nat.succ=g ∘ Nat.succ from rfl]at this;rw[this];rfl
theorem ZfX{r:List (List Int)} {l:List Int} {den:Int} (h:ZaK r=some (l,den))(y:r.length<=5)(z:∀row∈r,row.length=r.length+1):0<den/\l.length=r.length/\∀row∈r,dotL row l=row.getD r.length 0*den:=by
 unfold ZaK at h;split at h;·cases h
 rename_i D;obtain⟨rfl,rfl⟩:_/\_:=by simpa using h
 refine⟨?_,by simp,fun row j=>?_⟩;·unfold ZaQ;split<;>omega
 ·obtain⟨i,hi,rfl⟩:=Zyb j;have m:=Zog (colF r none) (fun i=>entR r i r.length) r.length y i hi;rw[Zj9 [] (fun _=>0) _ _ _ (by rw[z _ j];omega)];have p:∀c,(colF r none i c)=r[i].getD c 0:=fun c=>by simp[colF,entR,ZxS,ZxX hi]
  have q:entR r i r.length=r[i].getD r.length 0:=by simp[entR,ZxS,ZxX hi]
  have u:∀c,ZU (repl (colF r none) (fun i=>entR r i r.length) c) r.length=ZR r (some c):=fun c=>by unfold ZR;rw[Zoh]
  simp only[p,q,u]at m;have:((List.range r.length).map fun c=>r[i].getD c 0*(ZaQ (ZR r none)*ZR r (some c))).sum=ZaQ (ZR r none)*((List.range r.length).map fun c=>r[i].getD c 0*ZR r (some c)).sum:=by generalize List.range r.length=L;induction L with
   |nil=>simp|cons x L ih=>simp only[Zyp,ZyU,ih];grind
  rw[this,m];show ZaQ _*(_*ZR r none)=_;grind
end Go.Proofs
namespace Go.Proofs
open Tryz
open Go.RowKit
variable {w:World} {A:Option Addr}
def Zc(x:Int):List Value:=[.int .i64 x]
structure IR where
 A:Option Addr
 c:Nat
 l:List Int
def IR.cs(x:IR):List Value:=[.slice x.A x.l.length x.c]
def Zcu(w:World)(A:Option Addr)(xs:List IR):Prop:=At 1 IR.cs w A xs/\∀x∈xs,At 1 Zc w x.A x.l
theorem Zcu.below{w':World} {xs:List IR} (h:Zcu w A xs)(hb:Below w.heap.size w w'):Zcu w' A xs:=⟨h.1.below hb,fun x j=>(h.2 x j).below hb⟩
def Zcf(r:List (List Int))(q:Int)(i c:Nat):Int:=entR r i (if (c:Int)=q then r.length else c)
theorem Zcu.cell{xs:List IR} (h:Zcu w A xs) {i j:Nat} {x:IR} (hx:xs[i]?=some x)(q:j<x.l.length):∃b o m o2,A=some ⟨b,o,none⟩/\x.A=some ⟨m,o2,none⟩/\w.cell? ⟨b,o+i,none⟩=some (.slice (some ⟨m,o2,none⟩) x.l.length x.c)/\w.cell? ⟨m,o2+j,none⟩=some (.int .i64 (x.l.getD j 0))/\entR (xs.map IR.l) i j=x.l.getD j 0:=by
 obtain⟨b,o,u,-,y⟩:=h.1 i x hx;obtain⟨m,o2,hA2,-,p⟩:=h.2 x (ZyD hx) j _ (ZxX q);refine⟨b,o,m,o2,u,hA2,?_,?_,?_⟩;·have:=y 0 _ rfl;rw[hA2]at this;simpa using this
 ·have:=p 0 _ rfl;rw[ZxS,ZxX q];simpa using this
 ·simp[entR,ZxS,hx]
theorem Zoi(A:Option Addr)(xs:List IR)(c n:Nat)(q:Int)(K N R row h:Nat)(w:World)(G:w.heap[K]?=some (.cells #[.int .i64 q] 3 (0,0)))(hN:w.heap[N]?=some (.cells #[.int .i64 n] 3 (0,0)))(H:w.heap[R]?=some (.cells #[.slice A n c] 160 (0,0)))(m:Zcu w A xs)(J:xs.length=n)(I:∀x∈xs,x.l.length=n+1)(U:row<n)(S:h<n):Calls prog 134 #[.int .i64 row,.int .i64 h,.pointer (some ⟨K,0,none⟩),.pointer (some ⟨N,0,none⟩),.pointer (some ⟨R,0,none⟩)] w fun e w'=>e=.returned (.int .i64 (Zcf (xs.map IR.l) q row h))/\w=w':=by
 obtain⟨x,E⟩:∃x,xs[row]?=some x:=⟨_,ZxX (by omega)⟩;have u:=I x (ZyD E);have p:(xs.map IR.l).length=n:=by simpa using J
 have Z:=bk1 G;have CN:=bk1 hN;have CR:=bk1 H;have Y:(row:Int)<(n:Int):=by omega
 by_cases y:(h:Int)=q
 ·obtain⟨b,o,V,o2,rfl,hA2,F,X,z⟩:=m.cell E (j:=n) (by omega);have D:Zcf (xs.map IR.l) q row h=x.l.getD n 0:=by unfold Zcf;rw[if_pos y,p,z]
  rw[D];rw[u]at F;have O:((h:Int)==q)=true:=by simp[y]
  have L:(n:Int)<((n+1:Nat):Int):=by omega
  generalize x.l.getD n 0=v at*;clear y D z E u I J m p G hN H hA2;go_enter func134,ntmps134;go_wp2;go_ret;exact⟨rfl,rfl⟩
 ·obtain⟨b,o,V,o2,rfl,hA2,F,X,z⟩:=m.cell E (j:=h) (by omega);have D:Zcf (xs.map IR.l) q row h=x.l.getD h 0:=by unfold Zcf;rw[if_neg y,z]
  rw[D];rw[u]at F;have O:((h:Int)==q)=false:=by simp[y]
  have L:(h:Int)<((n+1:Nat):Int):=by omega
  generalize x.l.getD h 0=v at*;clear y D z E u I J m p G hN H hA2;go_enter func134,ntmps134;go_wp2;go_ret;exact⟨rfl,rfl⟩
end Go.Proofs
namespace Go.Proofs
variable {l:List Int}
def wsum:List Int->(Nat->Int)->Int|[],_=>0|x::m,f=>x*f 0+wsum m fun k=>f (k+1)
theorem Zoj(m:List Int)(c:Int):wsum m (fun _=>c)=c*m.sum:=by induction m with|nil=>simp[wsum]|cons x m ih=>simp only[wsum,ZyU];rw[ih];grind
theorem Zok(m:List Int):wsum m (fun _=>0)=0:=by rw[Zoj];simp
theorem Zol{m:List Int} {f g:Nat->Int} (h:∀k x,m[k]?=some x->x≠0->f k=g k):wsum m f=wsum m g:=by induction m generalizing f g with
 |nil=>rfl|cons x m ih=>
  simp only[wsum];rw[ih (f:=fun k=>f (k+1)) (g:=fun k=>g (k+1)) fun k y p=>h (k+1) y (by simpa using p)];by_cases j:x=0;·rw[j];simp
  ·rw[h 0 x rfl j]
theorem Zka:∀(a m:List Int),m.length<=a.length->dotL a m=wsum m fun k=>a.getD k 0|[],[],_=>rfl|_::_,[],_=>by simp[dotL,wsum]|[],_::_,h=>by simp at h|a::ar,x::m,h=>by simp only[dotL,wsum,ZxR,ZxQ];rw[Zka ar m (by simpa using h)];grind
theorem Zkb(a b m:List Int)(h:m.length=a.length):dotL (a++b) m=dotL a m:=by induction a generalizing m with|nil=>have:m=[]:=ZxE (by simpa using h);subst this;cases b<;>simp[dotL]|cons x a ih=>cases m with|nil=>simp at h|cons y m=>simp only[Zxt,dotL];rw[ih m (by simpa using h)]
theorem ZhF(g:Int):∀(a m:List Int),dotL a (m.map (g*·))=g*dotL a m|[],_=>by simp[dotL]|_::_,[]=>by simp[dotL]|a::ar,x::m=>by simp only[Zyp,dotL];rw[ZhF g ar m];grind
theorem Zaj{a b:Int} {A B:Nat} (ha:a.natAbs<=A)(hb:b.natAbs<=B):(a*b).natAbs<=A*B:=by rw[Int.natAbs_mul];exact Zzl ha hb
theorem Zc5:∀(l:List Int)(g:Nat),gcdL g l∣g/\∀x∈l,(gcdL g l:Int)∣x
 |[],g=>⟨Nat.dvd_refl _,fun x h=>by cases h⟩|n::l,g=>by
  obtain⟨j,m⟩:=Zc5 l (Nat.gcd g n.natAbs);simp only[gcdL];refine⟨Nat.dvd_trans j (Nat.gcd_dvd_left _ _),fun x h=>?_⟩;rcases Zyx.1 h with rfl|h;·exact Int.ofNat_dvd_left.2 (Nat.dvd_trans j (Nat.gcd_dvd_right _ _))
  ·exact m x h
theorem Zeg{g:Nat} (x:Int)(hx:x∈l)(h0:x≠0):0<gcdL g l:=by
 rcases Nat.eq_zero_or_pos (gcdL g l)with h|h;·have:=(Zc5 l g).2 x hx;rw[h]at this;exact absurd (Int.zero_dvd.1 this) h0
 ·exact h
theorem Zom{g:Int} (m:0<g)(h:∀x∈l,g∣x):(l.map (· / g)).map (g*·)=l:=by
 rw[Zyq];conv=>rhs;rw[<-List.map_id l]
 apply List.map_congr_left;intro x j;simp only[Function.comp_apply,id_eq];exact Int.mul_ediv_cancel' (h x j)
end Go.Proofs
namespace Go.Proofs
open Go.RowKit
variable {w:World} {A:Option Addr} {l:List Int} {K:Nat}
structure Pa where
 nm:ByteArray
 a0:Int
 a1:Int
 c0:Int
 c1:Int
def Pa.cs(p:Pa):List Value:=[.string p.nm,.int .i64 p.a0,.int .i64 p.a1,.int .i64 p.c0,.int .i64 p.c1]
structure En where
 nm:ByteArray
 A:Option Addr
 c:Nat
 co:List Int
 mo:Int
def En.cs(x:En):List Value:=[.string x.nm,.slice x.A x.co.length x.c,.int .i64 x.mo]
def En.ex(x:En):Ex:=(x.co,x.mo)
def Zat(w:World)(A:Option Addr)(es:List En):Prop:=At 3 En.cs w A es/\∀x∈es,At 1 Zc w x.A x.co
theorem Zat.below{w':World} {es:List En} (h:Zat w A es)(hb:Below w.heap.size w w'):Zat w' A es:=⟨h.1.below hb,fun x j=>(h.2 x j).below hb⟩
theorem Zan(h:At 1 Zc w A l) {k:Nat} (m:k<l.length):∃b o,A=some ⟨b,o,none⟩/\b<w.heap.size/\w.cell? ⟨b,o+k,none⟩=some (.int .i64 (l.getD k 0)):=by obtain⟨b,o,p,j,q⟩:=h k _ (ZxX m);refine⟨b,o,p,j,?_⟩;have:=q 0 _ rfl;rw[ZxS,ZxX m];simpa using this
def ZM(K:Nat)(l:List Int):Prop:=∀x∈l,x.natAbs<=K
theorem ZM.get(h:ZM K l)(k:Nat):(l.getD k 0).natAbs<=K:=by rw[ZxS];cases j:l[k]? with|none=>exact Zzx _|some x=>exact h x (ZyD j)
theorem ZM.mono{j:Nat} (h:ZM K l)(m:K<=j):ZM j l:=fun x p=>Zzb (h x p) m
theorem ZhG:∀(a b:List Int) (k:Nat),k<a.length->k<b.length->dotL (a.take (k+1)) (b.take (k+1))=dotL (a.take k) (b.take k)+a.getD k 0*b.getD k 0|[],_,_,h,_=>by simp at h|_::_,[],_,_,h=>by simp at h|x::a,y::b,0,_,_=>by cases a<;>cases b<;>simp[dotL]|x::a,y::b,k+1,h,h'=>by simp only[ZyY,dotL,ZxQ];have:=ZhG a b k (by simpa using h) (by simpa using h');rw[this];omega
theorem ZhH{X Y:Nat}:∀(a b:List Int) (k:Nat),ZM X a->ZM Y b->(dotL (a.take k) (b.take k)).natAbs<=k*(X*Y)|[],b,k,_,_=>by simp[dotL]|_::_,[],k,_,_=>by simp[dotL]|_::_,_::_,0,_,_=>by simp[dotL]|x::a,y::b,k+1,ha,hb=>by simp only[ZyY,dotL];have j:=Zaj (ha x (by simp)) (hb y (by simp));have m:=ZhH a b k (fun z h=>ha z (by simp[h])) fun z h=>hb z (by simp[h]);rw[Zy3];omega
theorem Zkc(a b:List Int) (h:a.length=b.length):dotL (a.take a.length) (b.take a.length)=dotL a b:=by rw[ZyW,h,ZyW]
theorem ZhI(c:Nat):∀(es:List Ex) (W:List Int) (k:Nat),k<es.length->k<W.length->putsL (es.take (k+1)) (W.take (k+1)) c=putsL (es.take k) (W.take k) c+W.getD k 0*(es.getD k default).1.getD c 0|[],_,_,h,_=>by simp at h|_::_,[],_,_,h=>by simp at h|x::a,y::b,0,_,_=>by cases a<;>cases b<;>simp[putsL]|x::a,y::b,k+1,h,h'=>by simp only[ZyY,putsL,ZxQ];have:=ZhI c a b k (by simpa using h) (by simpa using h');rw[this];omega
theorem Ze6{X Y:Nat} (c:Nat):∀(es:List Ex) (W:List Int) (k:Nat),(∀x∈es,ZM X x.1)->ZM Y W->(putsL (es.take k) (W.take k) c).natAbs<=k*(Y*X)|[],b,k,_,_=>by simp[putsL]|_::_,[],k,_,_=>by simp[putsL]|_::_,_::_,0,_,_=>by simp[putsL]|x::a,y::b,k+1,ha,hb=>by simp only[ZyY,putsL];have j:=Zaj (hb y (by simp)) ((ha x (by simp)).get c);have m:=Ze6 c a b k (fun z h=>ha z (by simp[h])) fun z h=>hb z (by simp[h]);rw[Zy3];omega
theorem ZhJ:∀(es:List Ex) (W:List Int) (k:Nat),k<es.length->k<W.length->spentL (es.take (k+1)) (W.take (k+1))=spentL (es.take k) (W.take k)+W.getD k 0*(es.getD k default).2|[],_,_,h,_=>by simp at h|_::_,[],_,_,h=>by simp at h|x::a,y::b,0,_,_=>by cases a<;>cases b<;>simp[spentL]|x::a,y::b,k+1,h,h'=>by simp only[ZyY,spentL,ZxQ];have:=ZhJ a b k (by simpa using h) (by simpa using h');rw[this];omega
theorem Zeh{X Y:Nat}:∀(es:List Ex) (W:List Int) (k:Nat),(∀x∈es,x.2.natAbs<=X)->ZM Y W->(spentL (es.take k) (W.take k)).natAbs<=k*(Y*X)|[],b,k,_,_=>by simp[spentL]|_::_,[],k,_,_=>by simp[spentL]|_::_,_::_,0,_,_=>by simp[spentL]|x::a,y::b,k+1,ha,hb=>by simp only[ZyY,spentL];have j:=Zaj (hb y (by simp)) (ha x (by simp));have m:=Zeh a b k (fun z h=>ha z (by simp[h])) fun z h=>hb z (by simp[h]);rw[Zy3];omega
end Go.Proofs
namespace Go.Proofs
open Tryz
open Go.RowKit
theorem Zcv{K x k n:Nat} (h:x<=k*K)(j:k<=n):x<=n*K:=Zzb h (Zzm _ j)
theorem ZhK(A B:Option Addr)(a b:List Int)(ca cb:Nat)(w:World)(hA:At 1 Zc w A a)(hB:At 1 Zc w B b)(H:a.length=b.length)(h8:a.length<=8)(X Y:Nat)(q:8*(X*Y)<=9000000000000000000)(sa:ZM X a)(sb:ZM Y b):Calls prog 52 #[.slice A a.length ca,.slice B b.length cb] w fun e w'=>e=.returned (.int .i64 (dotL a b))/\w=w':=by
 have h:=Zxi (Zkc a b H);have j:=Zxi fun k p=>ZhG a b k p (by rw[<-H];exact p);have u:=Zxi fun k=>ZhH (X:=X) (Y:=Y) a b k sa sb;have gA:=Zxi fun k (p:k<a.length)=>Zan hA p;have gB:=Zxi fun k (p:k<a.length)=>Zan (w:=w) hB (k:=k) (by rw[<-H];exact p);have ga:=Zxi sa.get;have q:=Zxi q;have gb:=Zxi sb.get;obtain⟨N,U⟩:∃N,a.length=N:=⟨_,rfl⟩;rw[U]at h j h8 gA gB |-;rw[<-H,U];clear hA hB H U sa sb;obtain⟨S,V⟩:∃S:Nat->Int,(fun k=>dotL (a.take k) (b.take k))=S:=⟨_,rfl⟩;have E:∀k,dotL (a.take k) (b.take k)=S k:=fun k=>by rw[<-V]
 have Z:S 0=0:=by rw[<-V];cases a<;>cases b<;>simp[dotL]
 simp only[E]at h j u;obtain⟨R,hR⟩:∃R,dotL a b=R:=⟨_,rfl⟩;rw[hR]at h |-;clear V E hR;have aA:=h;go_enter func52,ntmps52;go_wp2;go_loopw [5,10] (fun s i wr=>∃k:Nat,k<=N/\i=.int .i64 k/\s=.int .i64 (S k)/\w=wr)(fun _ i _=>N-(intOf i).toNat);case atStart=>exact⟨0,Zzx _,rfl,by rw[Z],rfl⟩
 case round=>
  obtain⟨k,p,rfl,rfl,rfl⟩:=hrel;by_cases m:k<N
  ·have aB:(k:Int)<(N:Int):=by omega
   obtain⟨b1,o1,hA1,-,c1⟩:=gA.out k m;obtain⟨b2,o2,O,-,c2⟩:=gB.out k m;subst hA1;subst O;have J:=j.out k m;have I:=Zaj (ga.out k) (gb.out k);have F:=Zcv (u.out k) p;have G:=Zcv (u.out (k+1)) m;obtain⟨x,hx⟩:∃x,a.getD k 0=x:=⟨_,rfl⟩;obtain⟨y,hy⟩:∃y,b.getD k 0=y:=⟨_,rfl⟩;rw[hx]at c1 J I;rw[hy]at c2 J I;obtain⟨z,hz⟩:∃z,x*y=z:=⟨_,rfl⟩;rw[hz]at J I;have h9:=Zzm (X*Y) h8;have D:=q.out;obtain⟨XY,L⟩:∃XY,X*Y=XY:=⟨_,rfl⟩;rw[L]at I F G h9 D;have aC:IntKind.i64.wrap (x*y)=z:=by rw[hz];exact Zxg _ (by omega)
   have aD:IntKind.i64.wrap (S k+z)=S (k+1):=by rw[<-J];exact Zxg _ (by omega)
   clear hz J I F G hx hy h9 D L;go_wp2;go_roundw;case rel=>exact⟨k+1,by omega,by go_num,rfl,by trivial⟩
   case measure=>simp[intOf]<;>omega
  ·obtain rfl:k=N:=by omega
   have e:S k=R:=h.out;clear m;go_wp2;go_ret;exact⟨Zbm e,rfl⟩
theorem Zon(l:List Int):∀(k g:Nat),k<l.length->gcdL g (l.take (k+1))=Nat.gcd (gcdL g (l.take k)) (l.getD k 0).natAbs:=by induction l with|nil=>intro k g h;simp at h|cons x l ih=>intro k g h;cases k with|zero=>simp[gcdL]|succ k=>simp only[ZyY,gcdL,ZxQ];exact ih k _ (by simpa using h)
theorem Zkd{g n:Int} (h:n≠0):Nat.gcd n.natAbs (g.tmod n).natAbs=Nat.gcd g.natAbs n.natAbs/\(g.tmod n).natAbs<n.natAbs:=by rw[Int.natAbs_tmod];refine⟨?_,Nat.mod_lt _ (by omega)⟩;rw[Nat.gcd_comm,<-Nat.gcd_rec,Nat.gcd_comm]
theorem ZhL(A:Option Addr)(l:List Int)(c:Nat)(w:World)(hA:At 1 Zc w A l)(h8:l.length<=1000)(sl:ZM 1000000000000000000 l):Calls prog 92 #[.slice A l.length c] w fun e w'=>e=.returned (.int .i64 (gcdL 0 l:Nat))/\Below w.heap.size w w':=by
 have h:=Zxi fun k H=>Zon l k 0 H;have gA:=Zxi fun W' (hb:Below w.heap.size w W') k (H:k<l.length)=>Zan (hA.below hb) H;have ga:=Zxi sl.get;have m:Hid (gcdL 0 (l.take l.length)=gcdL 0 l):=by rw[ZyW];exact rfl
 obtain⟨N,hN⟩:∃N,l.length=N:=⟨_,rfl⟩;rw[hN]at h h8 gA m |-;obtain⟨S,I⟩:∃S:Nat->Nat,(fun k=>gcdL 0 (l.take k))=S:=⟨_,rfl⟩;have D:∀k,gcdL 0 (l.take k)=S k:=fun k=>by rw[<-I]
 have J:S 0=0:=by rw[<-I];simp[gcdL]
 simp only[D]at h m;obtain⟨R,hR⟩:∃R,gcdL 0 l=R:=⟨_,rfl⟩;rw[hR]at m |-;clear hA hN sl I D hR;go_enter func92,ntmps92;go_wp2;go_loopw [3,8] (fun s i wr=>∃(k:Nat)(g:Int),k<=N/\i=.int .i64 k/\s=.int .i64 g/\Hid (g.natAbs=S k)/\Hid (g.natAbs<=1000000000000000000)/\Below w.heap.size w wr)(fun _ i _=>N-(intOf i).toNat);case atStart=>exact⟨0,0,Zzx _,rfl,rfl,by show (0:Int).natAbs=_;rw[J];rfl,by show (0:Int).natAbs<=_;omega,by go_grown⟩
 case round=>
  obtain⟨k,g0,H,rfl,rfl,E,u,p⟩:=hrel;by_cases z:k<N
  ·have aB:(k:Int)<(N:Int):=by omega
   obtain⟨b1,o1,hA1,aD,c1⟩:=gA.out wr p k z;subst hA1;have ht:=Zxi (h.out k z);have G:=Zxi (ga.out k);obtain⟨x,hx⟩:∃x,l.getD k 0=x:=⟨_,rfl⟩;rw[hx]at c1 ht G;clear hx;go_wp2;go_loopw [3,5] (fun s j wr=>∃g n:Int,s=.int .i64 g/\j=.int .i64 n/\Hid (Nat.gcd g.natAbs n.natAbs=S (k+1))/\Hid (g.natAbs<=1000000000000000000/\n.natAbs<=1000000000000000000)/\Below w.heap.size w wr)(fun _ j _=>(intOf j).natAbs);case atStart=>exact⟨g0,x,rfl,rfl,by show Nat.gcd _ _=_;rw[ht.out,E.out],⟨u.out,G.out⟩,by first|assumption|go_grown⟩
   case round=>
    clear p c1;obtain⟨g,n,rfl,rfl,hg,q,p⟩:=hrel;by_cases X:n=0
    ·subst X;have y:=Zxi (show g.natAbs=S (k+1)from by have:=hg.out;simpa using this);go_wp2;go_roundw;case rel=>exact⟨k+1,g,by omega,by go_num,rfl,y.out,q.out.1,p⟩
     case measure=>simp[intOf]<;>omega
    ·have aC : (n != 0) = true := by simpa using X
     obtain⟨s1,s2⟩:=Zkd (g:=g) X;have y:=Zxi (s1.trans hg.out);have F:=Zxi (show n.natAbs<=1000000000000000000/\(g.tmod n).natAbs<=1000000000000000000 from⟨q.out.2,by have:=q.out.2;omega⟩);have V:=Zxi s2;clear s1 s2;go_wp2;refine Zbc w (by kernel_rfl) (by kernel_rfl) (by go_grown) ?_;intro U O;repeat (go_big_quiet_step (fail))
     refine wpQuiet_nil ?_;intro wb L Z Y;clear U O;go_wp2;go_roundw;case rel=>exact⟨n,g.tmod n,rfl,rfl,y.out,F.out,by first|assumption|go_grown⟩
     case measure=>have:=V.out;simp only[intOf];exact this
  ·obtain rfl:k=N:=by omega
   have aA:g0.natAbs=R:=E.out.trans m.out;have q:=u.out;clear z;go_wp2;all_goals go_ret
   all_goals exact⟨Zbm (by omega),p⟩
def pcn:Nat->Nat->Nat|0,_=>0|f+1,n=>n%2+pcn f (n / 2)
def o1(x:Int):Int:=IntKind.u64.wrap (bits .and .u64 (x / 2) 6148914691236517205+bits .and .u64 x 6148914691236517205)
def o2(x:Int):Int:=IntKind.u64.wrap (bits .and .u64 (x / 4) 3689348814741910323+bits .and .u64 x 3689348814741910323)
def o3(x:Int):Int:=bits .and .u64 (IntKind.u64.wrap (x / 16+x)) 1085102592571150095
def o4(x:Int):Int:=IntKind.u64.wrap (x+x / 256)
def o5(x:Int):Int:=IntKind.u64.wrap (x+x / 65536)
def o6(x:Int):Int:=IntKind.u64.wrap (x+x / 4294967296)
def Zoo(x:Int):Int:=bits .and .i64 (wrap64 (o6 (o5 (o4 (o3 (o2 (o1 x))))))) 127
theorem Zop:∀n∈List.range 256,Zoo (n:Int)=((pcn 8 n:Nat):Int):=by decide+kernel
theorem Zoq(n:Nat)(j:n<256)(w:World):Calls prog 145 #[.int .u64 n] w fun e w'=>e=.returned (.int .i64 (pcn 8 n))/\w=w':=by have h:=Zxi (Zop n (ZyF.2 j));go_enter func145,ntmps145;go_wp2;go_ret;exact⟨Zbm h.out,rfl⟩
theorem Zor(n:Nat)(h:n<256)(w:World):Calls prog 135 #[.int .u64 n] w fun e w'=>e=.returned (.int .i64 (pcn 8 n))/\w=w':=by go_enter func135,ntmps135;go_wp2_with (go_at_call 145;refine(Zoq n h _).mono ?_;rintro e w' ⟨rfl,rfl⟩);go_ret;exact⟨rfl,rfl⟩
end Go.Proofs
namespace Go.Proofs
variable {l:List Int} {x:Int} {k:Nat}
theorem ZhM:∀n∈List.range 6,∀s∈List.range (2^n),∀c∈List.range n,(s>>>c)%2=1->pop n (s-2^c)+1=pop n s/\2^c<=s:=by decide+kernel
theorem Ze7:∀n∈List.range 6,∀s∈List.range (2^n),pop n s<=n:=by decide+kernel
theorem Zke:∀n∈List.range 6,∀s∈List.range (2^n),s≠0->1<=pop n s:=by decide+kernel
theorem ZhN{f:Nat->Nat->Int} {M:List Int} {row set Z:Nat}:∀(c:Nat)(acc m:Int),(m=1∨m=-1)->(∀j,j<c->(f row j).natAbs<=400)->(∀j,j<c->(set>>>j)%2=1->(M.getD (set-2^j) 0).natAbs<=Z)->(ZaJ f M row set c acc m).natAbs<=acc.natAbs+c*(400*Z)
 |0,acc,_,_,_,_=>by unfold ZaJ;omega|c+1,acc,m,hs,hf,hM=>by
  unfold ZaJ;have u:(-m=1∨-m=-1):=by omega
  split;·have:=ZhN c acc m hs (fun j q=>hf j (by omega)) fun j q=>hM j (by omega);rw[Zy3];omega
  ·rename_i E;have p:(set>>>c)%2=1:=by omega
   have z:=Zaj (hf c (by omega)) (hM c (by omega) p);have y:∀h,h.natAbs<=acc.natAbs+400*Z->(ZaJ f M row set c h (-m)).natAbs<=acc.natAbs+(c+1)*(400*Z):=fun h D=>by have:=ZhN c h (-m) u (fun j q=>hf j (by omega)) fun j q=>hM j (by omega);rw[Zy3];omega
   refine y _ ?_;split;·omega
   ·rw[Int.mul_assoc];rcases hs with rfl|rfl<;>omega
theorem Zkf(h:k<l.length):(l++[x]).getD k 0=l.getD k 0:=by rw[ZxS,ZxT h,<-ZxS]
theorem ZhO(h:k=l.length):(l++[x]).getD k 0=x:=by subst h;simp[ZxS]
def ZdF(f:Nat->Nat->Int)(n:Nat):Prop:=∀i j,i<n->j<n->(f i j).natAbs<=400
theorem ZhP{f:Nat->Nat->Int} {n:Nat} (y:n<=5)(hf:ZdF f n):∀s,s<2^n->∀k,k<=s->((dpM f n s).getD k 0).natAbs<=2000^pop n k
 |0,_,k,hk=>by
  obtain rfl:k=0:=by omega
  simp only[dpM,ZxR];exact Nat.one_le_pow _ _ (by omega)|s+1,hs,k,hk=>by
  have z:=ZhP y hf s (by omega);have L:=ZcK f n s;unfold dpM;by_cases u:k<=s;·rw[Zkf (by omega)];exact z k u
  ·obtain rfl:k=s+1:=by omega
   rw[ZhO (by omega)];have h:n∈List.range 6:=ZyF.2 (by omega);have m:s+1∈List.range (2^n):=ZyF.2 hs;have F:=Zke n h _ m (by omega);have G:=Ze7 n h _ m;unfold Zb1;have:=ZhN (f:=f) (M:=dpM f n s) (row:=pop n (s+1)-1) (set:=s+1) (Z:=2000^(pop n (s+1)-1)) n 0 1 (.inl rfl) (fun j q=>hf _ _ (by omega) q) fun j q D=>by obtain⟨H,I⟩:=ZhM n h _ m j (ZyF.2 q) D;have J:=Zzv j;have:=z (s+1-2^j) (by omega);rwa [show pop n (s+1-2^j)=pop n (s+1)-1 by omega]at this
   refine Zzb this ?_;obtain⟨p,E⟩:∃p,pop n (s+1)=p+1:=⟨pop n (s+1)-1,by omega⟩;rw[E];simp only[Zy4,Int.natAbs_zero,Zzw,Nat.pow_succ];have:n*(400*2000^p)<=5*(400*2000^p):=Zzm _ y;omega
theorem Zos{f:Nat->Nat->Int} {n s j:Nat} (y:n<=5)(hf:ZdF f n)(hs:s+1<2^n)(u:j<n)(hb:((s+1)>>>j)%2=1):((dpM f n s).getD (s+1-2^j) 0).natAbs<=16000000000000/\2^j<=s+1/\pop n (s+1)-1<n:=by
 have h:n∈List.range 6:=ZyF.2 (by omega);have m:s+1∈List.range (2^n):=ZyF.2 hs;obtain⟨D,p⟩:=ZhM n h _ m j (ZyF.2 u) hb;have z:=Ze7 n h _ m;have E:=Zzv j;have:=ZhP y hf s (by omega) (s+1-2^j) (by omega);refine⟨Zzb this ?_,p,by omega⟩;have q:pop n (s+1-2^j)<=4:=by omega
 exact Zzb (Zzs (by omega) q) (by decide)
end Go.Proofs
namespace Go.Proofs
open Tryz
open Go.RowKit
variable {f:Nat->Nat->Int} {n s:Nat} {acc:Int}
theorem info3:(prog.info? 3).map (fun i=>(i.zero,i.size,i.bytes))=some (some (.int .i64 0),1,8):=by kernel_rfl
theorem Zcg(n:Nat) (h:n<=100000) (W:World):(Instr.makeSlice 31 (.int .i64 n) (.int .i64 n)).run prog W=.ok (.slice (some ⟨W.heap.size,0,none⟩) n n) (W.alloc (.cells (Zax (List.replicate n 0)) 3 (0,0))):=by rw[<-Zoe];exact run_make_row' 31 3 (.int .i64 0) 8 underlying31 info3 rfl .i64 .i64 n (by omega) (by omega) W
theorem Zot:∀s∈List.range 32,∀c∈List.range 5,(s>>>c)%2=1->bits .andNot .i64 (s:Int) ((2^c:Nat):Int)=((s-2^c:Nat):Int):=by decide+kernel
theorem Zou:∀s∈List.range 32,bits .and .i64 (s:Int) 1=((s%2:Nat):Int):=by decide+kernel
def Zbo(f:Nat->Nat->Int)(n s:Nat)(acc:Int):List Int:=dpM f n (s-1)++acc::List.replicate (2^n-1-s) 0
theorem Zov{h:Int} (j:1<=s):(Zbo f n s acc).set s h=Zbo f n s h:=by unfold Zbo;rw[ZyS _ _ (by rw[ZcK];omega),ZcK,show s-(s-1+1)=0 by omega];rfl
theorem ZhQ(h:1<=s):(Zbo f n s acc)[s]?=some acc:=by unfold Zbo;rw[ZxU (by rw[ZcK];omega),ZcK,show s-(s-1+1)=0 by omega];rfl
theorem Zow{k:Nat} (h:1<=s)(j:k<s):(Zbo f n s acc)[k]?=some ((dpM f n (s-1)).getD k 0):=by unfold Zbo;have m:=ZcK f n (s-1);rw[ZxT (by omega),ZxS,ZxX (by omega)];rfl
theorem Zox(h:1<=s)(j:s+1<2^n):Zbo f n s (Zb1 f n (dpM f n (s-1)) s)=Zbo f n (s+1) 0:=by obtain⟨r,rfl⟩:∃r,s=r+1:=⟨s-1,by omega⟩;unfold Zbo;simp only[Zy4];rw[show dpM f n (r+1)=dpM f n r++[Zb1 f n (dpM f n r) (r+1)]from rfl,show 2^n-1-(r+1)=(2^n-1-(r+1+1))+1 by omega,ZyQ];simp
theorem Zoy(h:1<=s)(j:s+1=2^n):(Zbo f n s (Zb1 f n (dpM f n (s-1)) s))[2^n-1]?=some (ZU f n):=by obtain⟨r,rfl⟩:∃r,s=r+1:=⟨s-1,by omega⟩;rw[show 2^n-1=r+1 by omega,ZhQ h];unfold ZU;rw[show 2^n-1=r+1 by omega,Zy4];show _=some ((dpM f n r++[Zb1 f n (dpM f n r) (r+1)]).getD (r+1) 0);rw[ZhO (by rw[ZcK])]
theorem Zoz(h:1<=n):(List.replicate (2^n) 0).set 0 1=Zbo f n 1 0:=by unfold Zbo;obtain⟨r,j⟩:∃r,2^n=r+2:=⟨2^n-2,by have:2^1<=2^n:=Zzs (by omega) h;omega⟩;rw[j,show r+2-1-1=r by omega];rfl
variable {f:Nat->Nat->Int} {M:List Int} {row s d K x n:Nat} {acc g:Int}
theorem ZoA:∀n∈List.range 6,∀s∈List.range (2^n),s≠0->(pcn 8 s-1)+1=pcn 8 s/\pop n s-1=pcn 8 s-1/\pcn 8 s-1<n/\IntKind.u64.wrap (s:Int)=(s:Int):=by decide+kernel
theorem ZoB:∀s∈List.range 32,∀c∈List.range 5,(s:Int) / 2^c=((s>>>c:Nat):Int):=by decide+kernel
theorem ZoC(h:(s>>>d)%2=0):ZaJ f M row s (d+1) acc g=ZaJ f M row s d acc g:=by
 conv=>lhs;unfold ZaJ
 rw[if_pos h]
theorem ZoD{m:Int} (h:(s>>>d)%2=1) (hm:M.getD (s-2^d) 0=m):ZaJ f M row s (d+1) acc g=ZaJ f M row s d (if m=0 then acc else acc+g*f row d*m) (-g):=by
 conv=>lhs;unfold ZaJ
 rw[if_neg (by omega),hm]
theorem Zkg(h:x<=(n-(d+1))*K)(j:d+1<=n):x<=(n-d)*K:=Zzb h (Zzm _ (by omega))
theorem ZoE{y:Nat} (h:x<=(n-(d+1))*K)(m:y<=x+K)(j:d+1<=n):y<=(n-d)*K:=by rw[show n-d=n-(d+1)+1 by omega,Zy3,Nat.one_mul];omega
theorem ZoF(h:x<=(n-d)*K)(j:n<=5):x<=5*K:=Zzb h (Zzm _ (by omega))
theorem ZoG(A:Option Addr)(xs:List IR)(cp n:Nat)(q:Int)(w:World)(L:Zcu w A xs)(hn:xs.length=n)(hl:∀x∈xs,x.l.length=n+1)(h1:1<=n)(h5:n<=5)(hf:ZdF (Zcf (xs.map IR.l) q) n):Calls prog 124 #[.slice A n cp,.int .i64 q] w fun e w'=>e=.returned (.int .i64 (ZU (Zcf (xs.map IR.l) q) n))/\Below w.heap.size w w':=by
 obtain⟨f,aU⟩:∃f,Zcf (xs.map IR.l) q=f:=⟨_,rfl⟩;have aO:=Zxi fun(row aN:Nat)(h1:row<n)(h2:aN<n) W (F:Below w.heap.size w W)(e1:W.heap[w.heap.size]?=some (.cells #[.slice A n cp] 160 (0,0)))(e2:W.heap[w.heap.size+1]?=some (.cells #[.int .i64 q] 3 (0,0)))(e3:W.heap[w.heap.size+2]?=some (.cells #[.int .i64 n] 3 (0,0)))=>Zoi A xs cp n q (w.heap.size+1) (w.heap.size+2) w.heap.size row aN W e2 e3 e1 (L.below F) hn hl h1 h2;rw[aU]at aO hf |-;clear aU L hl hn;obtain⟨P,hP⟩:∃P,2^n=P:=⟨_,rfl⟩;have bS:2<=P/\P<=32:=by rcases n with _|_|_|_|_|_|n<;>first|omega|(subst hP;decide)
 have bH:=Zxi (Zcg P (by omega));have H:=Zxi hP;have aS:=Zxi hf;have aZ:(Zax (List.replicate P 0))[0]?=some (.int .i64 0):=by rw[Ze5,Zx4,if_pos (by omega)];rfl
 have bU:(2:Int)^n=(P:Int):=by rw[<-hP];simp
 clear hP hf;go_enter func124,ntmps124;have aW:=bH.out;go_wp2;clear aZ aW;go_loopw [8] (fun i wr=>∃s:Nat,1<=s/\s<=P/\i=.int .i64 s/\Hid ((wr.heap[w.heap.size]?=some (.cells #[.slice A n cp] 160 (0,0))/\wr.heap[w.heap.size+1]?=some (.cells #[.int .i64 q] 3 (0,0))/\wr.heap[w.heap.size+2]?=some (.cells #[.int .i64 n] 3 (0,0))/\ZJ 3 wr (w.heap.size+3) (if s<P then Zbo f n s 0 else Zbo f n (s-1) (Zb1 f n (dpM f n (s-2)) (s-1)))/\Below w.heap.size w wr))) (fun i _=>P-(intOf i).toNat);case atStart=>
  refine⟨1,Zza _,by omega,rfl,?_,?_,?_,?_,?_⟩;·(repeat (first|assumption|(refine ZA _ _ ?_;(simp;done))|refine ZD ?_|refine Zz ?_ _|refine ZB ?_ (by simp<;>omega) _))
  ·(repeat (first|assumption|(refine ZA _ _ ?_;(simp;done))|refine ZD ?_|refine Zz ?_ _|refine ZB ?_ (by simp<;>omega) _))
  ·(repeat (first|assumption|(refine ZA _ _ ?_;(simp;done))|refine ZD ?_|refine Zz ?_ _|refine ZB ?_ (by simp<;>omega) _))
  ·rw[if_pos (by omega),<-Zoz h1,H.out];have:=ZJ.new (T:=3) (((w.alloc (.cells #[.slice A n cp] 160 (0,0))).alloc (.cells #[.int .i64 q] 3 (0,0))).alloc (.cells #[.int .i64 n] 3 (0,0))) ((List.replicate P 0).set 0 1);simp only[World.size_alloc]at this;rw[Zhz];exact this
  ·go_grown
 case round=>
  obtain⟨s,N,bW,rfl,z⟩:=hrel;obtain⟨m0,m1,m2,m3,y⟩:=z.out;clear z;have C2:=bk1 m2;by_cases X:s<P
  ·have bV:(s:Int)<(P:Int):=by omega
   rw[if_pos X]at m3;have E:s∈List.range 32:=ZyF.2 (by omega);obtain⟨aD,aE,aF,aY⟩:=ZoA n (ZyF.2 (by omega)) s (ZyF.2 (by rw[H.out];exact X)) (by omega);obtain⟨row,aC⟩:∃row,pcn 8 s-1=row:=⟨_,rfl⟩;rw[aC]at aD aE aF;have hO:=Zxi fun W=>Zor s (by omega) W;rw[<-aD]at hO;have bL:=Zxi fun(d:Nat)(hd:d<n)(F:(s>>>d)%2=1)=>(by obtain⟨r,rfl⟩:∃r,s=r+1:=⟨s-1,by omega⟩;exact Zos h5 aS.out (by rw[H.out];exact X) hd F:((dpM f n (s-1)).getD (s-2^d) 0).natAbs<=16000000000000/\2^d<=s/\pop n s-1<n);have J:=Zxi fun h=>Zox (f:=f) (n:=n) (s:=s) N h;have aP:Hid (ZaJ f (dpM f n (s-1)) row s n 0 1=Zb1 f n (dpM f n (s-1)) s):=by unfold Zb1;rw[aE];exact rfl
   have aJ:=Zxi (ZoB s E);have aR:=Zxi (Zot s E);obtain⟨V,hV⟩:∃V,Zb1 f n (dpM f n (s-1)) s=V:=⟨_,rfl⟩;rw[hV]at J aP;have bB:=Zxi hV;clear hV aC aD aE E;have E:=Zxi (show s<32 by omega);go_wp2_with (go_at_call 135;refine(hO.out _).mono ?_;rintro e w2 ⟨rfl,rfl⟩);clear hO aY;go_loopw [10,11] (fun sg j wr=>∃(c:Nat) (g acc:Int),c<=n/\j=.int .i64 ((c:Int)-1)/\sg=.int .i64 g/\(g=1∨g=-1)/\Hid (ZaJ f (dpM f n (s-1)) row s c acc g=V)/\Hid (acc.natAbs<=(n-c)*6400000000000000)/\Hid ((wr.heap[w.heap.size]?=some (.cells #[.slice A n cp] 160 (0,0))/\wr.heap[w.heap.size+1]?=some (.cells #[.int .i64 q] 3 (0,0))/\wr.heap[w.heap.size+2]?=some (.cells #[.int .i64 n] 3 (0,0))/\ZJ 3 wr (w.heap.size+3) (Zbo f n s acc)/\Below w.heap.size w wr))) (fun _ j _=>(intOf j+1).toNat);case atStart=>exact⟨n,1,0,Zza _,rfl,rfl,.inl rfl,aP.out,by show (0:Int).natAbs<=_;omega,m0,m1,m2,m3,y⟩
   case round=>
    clear m0 m1 m2 m3 y C2;obtain⟨c',g,acc,hc,rfl,rfl,hg,Z,G,z⟩:=hrel;obtain⟨m0,m1,m2,m3,y⟩:=z.out;clear z;have C2:=bk1 m2;rcases c' with _|d
    ·have hj:((0:Nat):Int)-1=-1:=rfl;rw[hj];have aH:acc=V:=Z.out;subst aH;go_wp2;go_roundw;case rel=>
      refine⟨s+1,by omega,by omega,by go_num,m0,m1,m2,?_,y⟩;by_cases hl:s+1<P;·rw[if_pos hl,<-J.out (by rw[H.out];exact hl)];exact m3
      ·rw[if_neg hl,show s+1-1=s by omega,show s+1-2=s-1 by omega,bB.out];exact m3
     case measure=>simp[intOf]<;>omega
    ·have hj:((d+1:Nat):Int)-1=(d:Int):=by omega
     rw[hj];obtain⟨t,ht⟩:∃t,s>>>d=t:=⟨_,rfl⟩;have bK:(s:Int) / 2^d=(t:Int):=by rw[<-ht];exact aJ.out d (ZyF.2 (by omega))
     have O:t<32:=by
      have:s>>>d<=s:=by rw[Nat.shiftRight_eq_div_pow];exact Nat.div_le_self _ _
      have:=E.out;omega
     have R:bits .and .i64 (t:Int) 1=((t%2:Nat):Int):=Zou t (ZyF.2 O);rcases Nat.mod_two_eq_zero_or_one t with F|F
     ·rw[F]at R;simp only[Int.natCast_zero,Int.natCast_one,Int.cast_ofNat_Int]at R;have p:=Zxi ((ZoC (by rw[ht];exact F)).symm.trans Z.out);clear F ht O;go_wp2;go_roundw;case rel=>exact⟨d,g,acc,by omega,rfl,rfl,hg,p.out,Zkg G.out hc,m0,m1,m2,m3,y⟩
      case measure=>simp[intOf]<;>omega
     ·rw[F]at R;simp only[Int.natCast_zero,Int.natCast_one,Int.cast_ofNat_Int]at R;obtain⟨z1,z2,z3⟩:=bL.out d (by omega) (by rw[ht];exact F);obtain⟨m,hm⟩:∃m,(dpM f n (s-1)).getD (s-2^d) 0=m:=⟨_,rfl⟩;have p:=Zxi (Z.out.symm.trans (ZoD (by rw[ht];exact F) hm));obtain⟨D,hD⟩:∃D,2^d=D:=⟨_,rfl⟩;have bR:1<=D:=by rw[<-hD];exact Nat.one_le_two_pow
      have bA:(2:Int)^d=(D:Int):=by rw[<-hD];simp
      have bM:D<=32:=by rw[hD]at z2;omega
      have bD:bits .andNot .i64 (s:Int) (D:Int)=((s-D:Nat):Int):=by rw[<-hD];exact aR.out d (ZyF.2 (by omega)) (by rw[ht];exact F)
      rw[hm]at z1;rw[hD]at z2 hm;obtain⟨k,hk⟩:∃k,s-D=k:=⟨_,rfl⟩;rw[hk]at bD hm;have ck:wr.cell? ⟨w.heap.size+3,k,none⟩=some (.int .i64 m):=m3.load (by rw[Zow N (by omega),hm]);have bG:(k:Int)<(P:Int):=by omega
      have bO:(s:Int) / (D:Int)=(t:Int):=by rw[<-bA];exact bK
      clear F ht O hm Z hk hD;by_cases Y:m=0
      ·subst Y;have I:=Zxi (show ZaJ f (dpM f n (s-1)) row s d acc (-g)=V from by have:=p.out;rw[if_pos rfl]at this;exact this.symm);clear p;have aK:-g=1∨-g=-1:=by omega
       go_wp2;go_roundw;case rel=>exact⟨d,-g,acc,by omega,rfl,rfl,aK,I.out,Zkg G.out hc,m0,m1,m2,m3,y⟩
       case measure=>simp[intOf]<;>omega
      ·have aK:-g=1∨-g=-1:=by omega
       have aT:=aS.out row d aF (by omega);obtain⟨v,hv⟩:∃v,f row d=v:=⟨_,rfl⟩;rw[hv]at aT p;have hA:=Zxi fun W F e1 e2 e3=>aO.out row d aF (by omega) W F e1 e2 e3;rw[hv]at hA;obtain⟨g1,S⟩:∃g1,g*v=g1:=⟨_,rfl⟩;obtain⟨g3,U⟩:∃g3,g1*m=g3:=⟨_,rfl⟩;have aB:g1.natAbs<=400:=by rw[<-S];rcases hg with rfl|rfl<;>omega
       have aV:g3.natAbs<=6400000000000000:=by rw[<-U];exact Zzb (Zaj aB z1) (by decide)
       have aQ:=ZoF G.out h5;obtain⟨a2,aG⟩:∃a2,acc+g3=a2:=⟨_,rfl⟩;have aA:a2.natAbs<=acc.natAbs+6400000000000000:=by omega
       have bY:IntKind.i64.wrap (g*v)=g1:=by rw[S];exact Zxg _ (by omega)
       have bZ:IntKind.i64.wrap (g1*m)=g3:=by rw[U];exact Zxg _ (by omega)
       have cA:IntKind.i64.wrap (acc+g3)=a2:=by rw[aG];exact Zxg _ (by omega)
       have I:=Zxi (show ZaJ f (dpM f n (s-1)) row s d a2 (-g)=V from by have:=p.out;rw[if_neg Y,S,U,aG]at this;exact this.symm);have aI:=Zxi (ZoE G.out aA hc);have cs:wr.cell? ⟨w.heap.size+3,s,none⟩=some (.int .i64 acc):=m3.load (ZhQ N);have bT : (m != 0) = true := by simpa using Y
       clear p S U aG aB aV aQ aA Y aT z1 hv;have hA2:=Zxi fun(x:Grew wr)=>hA.out x.val (via y x.ok) (Zw x.ok m0) (Zw x.ok m1) (Zw x.ok m2);have bX:=m3.size;have bI:(row:Int)+1-1=(row:Int):=by omega
       clear hA;go_wp2;refine ZaR w 14 (by kernel_rfl) (by kernel_rfl) (by go_grown) ?_;intro bF bE;simp only[ZyY,Zy0,ZxB,ZxC];repeat (go_big_quiet_step ((go_at_call 134;with_reducible exact Zd (hA2.out _))))
       refine wpQuiet_nil ?_;intro wb u aM bJ;clear bF bE;have n0:=Zw u m0;have n1:=Zw u m1;have n2:=Zw u m2;have n3:=m3.below u;have bP:=n3.load (ZhQ N);have bQ:=n3.frozen s;clear m0 m1 m2 m3 C2 cs ck hA2;go_wp2;go_roundw;case rel=>have n4:=n3.store s a2;rw[Zov N]at n4;exact⟨d,-g,a2,by omega,rfl,rfl,aK,I.out,aI.out,ZB n0 (by simp<;>omega) _,ZB n1 (by simp<;>omega) _,ZB n2 (by simp<;>omega) _,n4,aM.setCell (by simp<;>omega) _⟩
       case measure=>simp[intOf]<;>omega
  ·have aX:s=P:=by omega
   subst aX;rw[if_neg (by omega)]at m3;have aL:=m3.load (k:=s-1) (x:=ZU f n) (by have:=Zoy (f:=f) (n:=n) (s:=s-1) (by omega) (by rw[H.out];omega);rw[H.out]at this;exact this);obtain⟨k,hk⟩:∃k,s-1=k:=⟨_,rfl⟩;rw[hk]at aL;have bG:(s:Int)-1=(k:Int):=by omega
   have bN:(k:Int)<(s:Int):=by omega
   clear X;go_wp2;go_ret;exact⟨rfl,y⟩
variable {es:List En} {np:Nat}
structure RightE (es:List En)(np:Nat):Prop where
 n8:es.length<=8
 co:∀x∈es,x.co.length=np/\ZM 20 x.co/\x.mo.natAbs<=20
def exs(es:List En):List Ex:=es.map En.ex
theorem Zc6{k:Nat} {x:En} (h:es[k]?=some x):(exs es).getD k default=(x.co,x.mo):=by simp[exs,ZxS,h,En.ex]
theorem RightE.exs_co(h:RightE es np):∀x∈exs es,ZM 20 x.1:=fun x j=>by obtain⟨y,m,rfl⟩:=ZyC.1 j;exact(h.co y m).2.1
theorem RightE.exs_mo(h:RightE es np):∀x∈exs es,x.2.natAbs<=20:=fun x j=>by obtain⟨y,m,rfl⟩:=ZyC.1 j;exact(h.co y m).2.2
theorem Zaf(es:List En):(exs es).length=es.length:=Zyf ..
theorem ZhR(pA eA wA:Option Addr)(pn pc ec wc np:Nat)(es:List En)(W:List Int)(den lev:Int)(c:Nat)(w:World)(hR:RightE es np)(hE:Zat w eA es)(hW:At 1 Zc w wA W)(hl:W.length=es.length)(hc:c<np)(sW:ZM 10000000000000000 W):Calls prog 100 #[.agg #[.slice pA pn pc,.slice eA es.length ec],.agg #[.int .i64 den,.int .i64 lev,.slice wA W.length wc],.int .i64 c] w fun e w'=>e=.returned (.int .i64 (putsL (exs es) W c))/\Below w.heap.size w w':=by
 have h8:=hR.n8;have j:=Zxi fun k y=>ZhI c (exs es) W k (by rw[Zaf];exact y) (by rw[hl];exact y);have E:=Zxi fun k=>Ze6 (X:=20) (Y:=10000000000000000) c (exs es) W k hR.exs_co sW;have m:=Zxi (show putsL ((exs es).take es.length) (W.take es.length) c=putsL (exs es) W c by rw[<-Zaf,ZyW,Zaf,<-hl,ZyW]);have gE:=Zxi fun q (hb:Below w.heap.size w q) k (y:k<es.length)=>(by
  obtain⟨b,o,hA,h,G⟩:=(hE.below hb).1 k _ (ZxX y);have hx:=Zya y;obtain⟨h1,h2,-⟩:=hR.co _ hx;obtain⟨D,o2,hA2,V,aE⟩:=Zan ((hE.below hb).2 _ hx) (k:=c) (by omega);refine⟨es[k],b,o,D,o2,hA,h,V,hA2,h1,?_,?_,?_,aE,h2.get c,Zc6 (ZxX y)⟩;·simpa using G 0 _ rfl
  ·have:=G 1 _ rfl;rw[hA2]at this;exact this
  ·exact G 2 _ rfl:∃x:En,∃b o D o2,eA=some ⟨b,o,none⟩/\b<q.heap.size/\D<q.heap.size/\x.A=some ⟨D,o2,none⟩/\x.co.length=np/\q.cell? ⟨b,o+k*3,none⟩=some (.string x.nm)/\q.cell? ⟨b,o+k*3+1,none⟩=some (.slice (some ⟨D,o2,none⟩) x.co.length x.c)/\q.cell? ⟨b,o+k*3+2,none⟩=some (.int .i64 x.mo)/\q.cell? ⟨D,o2+c,none⟩=some (.int .i64 (x.co.getD c 0))/\(x.co.getD c 0).natAbs<=20/\(exs es).getD k default=(x.co,x.mo));have gW:=Zxi fun q (hb:Below w.heap.size w q) k (y:k<es.length)=>Zan (hW.below hb) (k:=k) (by omega);have sw:=Zxi sW.get;obtain⟨N,hN⟩:∃N,es.length=N:=⟨_,rfl⟩;rw[hl,hN];rw[hN]at j m gE gW h8;obtain⟨S,hS⟩:∃S:Nat->Int,(fun k=>putsL ((exs es).take k) (W.take k) c)=S:=⟨_,rfl⟩;have U:∀k,putsL ((exs es).take k) (W.take k) c=S k:=fun k=>by rw[<-hS]
 have aA:S 0=0:=by rw[<-hS];cases es<;>cases W<;>simp[putsL,exs]
 simp only[Zaf,hN,U]at m j E;obtain⟨R,O⟩:∃R,putsL (exs es) W c=R:=⟨_,rfl⟩;rw[O]at m |-;clear hE hW hl sW hS U O hR hN;go_enter func100,ntmps100;go_wp2;go_loopw [7,13] (fun s i wr=>∃k:Nat,k<=N/\i=.int .i64 k/\s=.int .i64 (S k)/\wr.heap[w.heap.size]?=some (.cells #[.slice pA pn pc,.slice eA N ec] 25 (0,0))/\wr.heap[w.heap.size+1]?=some (.cells #[.int .i64 den,.int .i64 lev,.slice wA N wc] 35 (0,0))/\Below w.heap.size w wr)(fun _ i _=>N-(intOf i).toNat);case atStart=>exact⟨0,Zzx _,rfl,by rw[aA],by(repeat (first|assumption|(refine ZA _ _ ?_;(simp;done))|refine ZD ?_|refine Zz ?_ _|refine ZB ?_ (by simp<;>omega) _)),by(repeat (first|assumption|(refine ZA _ _ ?_;(simp;done))|refine ZD ?_|refine Zz ?_ _|refine ZB ?_ (by simp<;>omega) _)),by go_grown⟩
 case round=>
  obtain⟨k,y,rfl,rfl,m0,m1,F⟩:=hrel;have C0:=bk2 m0;have C1:=bk3 m1;by_cases h:k<N
  ·have aI:(k:Int)<(N:Int):=by omega
   obtain⟨x,b,o,D,o2,hA1,aJ,aK,hA2,aG,c0,c1,c2,c3,Z,hg⟩:=gE.out wr F k h;obtain⟨b3,o3,hA3,aL,c4⟩:=gW.out wr F k h;subst hA1;subst hA3;have I:=j.out k h;rw[hg]at I;have hm:=Zaj (sw.out k) Z;have aB:=Zcv (E.out k) y;have aC:=Zcv (E.out (k+1)) h;have h9:=Zzm (10000000000000000*20) h8;have aH:(c:Int)<(x.co.length:Int):=by omega
   obtain⟨u,hu⟩:∃u,W.getD k 0=u:=⟨_,rfl⟩;obtain⟨v,hv⟩:∃v,x.co.getD c 0=v:=⟨_,rfl⟩;rw[hu]at c4 I hm;dsimp only at I;rw[hv]at c3 I hm;obtain⟨z,hz⟩:∃z,u*v=z:=⟨_,rfl⟩;rw[hz]at I hm;have aM:IntKind.i64.wrap (u*v)=z:=by rw[hz];exact Zxg _ (by omega)
   have aN:IntKind.i64.wrap (S k+z)=S (k+1):=by rw[<-I];exact Zxg _ (by omega)
   generalize x.co.length=L at*;clear hz I hm aB aC hu hv h9 Z hg hA2 aG;go_wp2;refine Zbc w (by kernel_rfl) (by kernel_rfl) (by go_grown) ?_;intro aF aD;repeat (go_big_quiet_step (fail))
   refine wpQuiet_nil ?_;intro wb p J H;clear aF aD;simp only[World.size_alloc]at H;have n0:=Zw p (Zz m0 _);have n1:=Zw p (Zz m1 _);clear m0 m1 C0 C1 c0 c1 c2 c3 c4;go_wp2;go_roundw;case rel=>exact⟨k+1,by omega,by go_num,rfl,n0,n1,J⟩
   case measure=>simp[intOf]<;>omega
  ·obtain rfl:k=N:=by omega
   have e:S k=R:=m.out;clear h;go_wp2;go_ret;exact⟨Zbm e,F⟩
theorem Zkh(pA eA wA:Option Addr)(pn pc ec wc np:Nat)(es:List En)(W:List Int)(den lev:Int)(w:World)(O:RightE es np)(hE:Zat w eA es)(hW:At 1 Zc w wA W)(hl:W.length=es.length)(sW:ZM 10000000000000000 W):Calls prog 101 #[.agg #[.slice pA pn pc,.slice eA es.length ec],.agg #[.int .i64 den,.int .i64 lev,.slice wA W.length wc]] w fun e w'=>e=.returned (.int .i64 (spentL (exs es) W))/\Below w.heap.size w w':=by
 have h8:=O.n8;have j:=Zxi fun k q=>ZhJ (exs es) W k (by rw[Zaf];exact q) (by rw[hl];exact q);have D:=Zxi fun k=>Zeh (X:=20) (Y:=10000000000000000) (exs es) W k O.exs_mo sW;have m:=Zxi (show spentL ((exs es).take es.length) (W.take es.length)=spentL (exs es) W by rw[<-Zaf,ZyW,Zaf,<-hl,ZyW]);have gE:=Zxi fun y (hb:Below w.heap.size w y) k (q:k<es.length)=>(by
  obtain⟨b,o,hA,h,F⟩:=(hE.below hb).1 k _ (ZxX q);have hx:=Zya q;obtain⟨h1,h2,-⟩:=O.co _ hx;have J:=(O.co _ hx).2.2;refine⟨es[k],b,o,hA,h,?_,?_,?_,J,Zc6 (ZxX q)⟩;·simpa using F 0 _ rfl
  ·exact F 1 _ rfl
  ·exact F 2 _ rfl:∃x:En,∃b o,eA=some ⟨b,o,none⟩/\b<y.heap.size/\y.cell? ⟨b,o+k*3,none⟩=some (.string x.nm)/\y.cell? ⟨b,o+k*3+1,none⟩=some (.slice x.A x.co.length x.c)/\y.cell? ⟨b,o+k*3+2,none⟩=some (.int .i64 x.mo)/\x.mo.natAbs<=20/\(exs es).getD k default=(x.co,x.mo));have gW:=Zxi fun y (hb:Below w.heap.size w y) k (q:k<es.length)=>Zan (hW.below hb) (k:=k) (by omega);have sw:=Zxi sW.get;obtain⟨N,hN⟩:∃N,es.length=N:=⟨_,rfl⟩;rw[hl,hN];rw[hN]at j m gE gW h8;obtain⟨S,hS⟩:∃S:Nat->Int,(fun k=>spentL ((exs es).take k) (W.take k))=S:=⟨_,rfl⟩;have V:∀k,spentL ((exs es).take k) (W.take k)=S k:=fun k=>by rw[<-hS]
 have aA:S 0=0:=by rw[<-hS];cases es<;>cases W<;>simp[spentL,exs]
 simp only[Zaf,hN,V]at m j D;obtain⟨R,U⟩:∃R,spentL (exs es) W=R:=⟨_,rfl⟩;rw[U]at m |-;clear hE hW hl sW hS V U O hN;go_enter func101,ntmps101;go_wp2;go_loopw [5,11] (fun s i wr=>∃k:Nat,k<=N/\i=.int .i64 k/\s=.int .i64 (S k)/\wr.heap[w.heap.size]?=some (.cells #[.slice pA pn pc,.slice eA N ec] 25 (0,0))/\wr.heap[w.heap.size+1]?=some (.cells #[.int .i64 den,.int .i64 lev,.slice wA N wc] 35 (0,0))/\Below w.heap.size w wr)(fun _ i _=>N-(intOf i).toNat);case atStart=>exact⟨0,Zzx _,rfl,by rw[aA],by(repeat (first|assumption|(refine ZA _ _ ?_;(simp;done))|refine ZD ?_|refine Zz ?_ _|refine ZB ?_ (by simp<;>omega) _)),by(repeat (first|assumption|(refine ZA _ _ ?_;(simp;done))|refine ZD ?_|refine Zz ?_ _|refine ZB ?_ (by simp<;>omega) _)),by go_grown⟩
 case round=>
  obtain⟨k,q,rfl,rfl,m0,m1,E⟩:=hrel;have C0:=bk2 m0;have C1:=bk3 m1;by_cases h:k<N
  ·have aF:(k:Int)<(N:Int):=by omega
   obtain⟨x,b,o,hA1,aG,c0,c1,c2,Z,hg⟩:=gE.out wr E k h;obtain⟨b3,o3,hA3,aH,c4⟩:=gW.out wr E k h;subst hA1;subst hA3;have H:=j.out k h;rw[hg]at H;have J:=Zaj (sw.out k) Z;have aB:=Zcv (D.out k) q;have aC:=Zcv (D.out (k+1)) h;have h9:=Zzm (10000000000000000*20) h8;obtain⟨u,hu⟩:∃u,W.getD k 0=u:=⟨_,rfl⟩;obtain⟨v,hv⟩:∃v,x.mo=v:=⟨_,rfl⟩;rw[hu]at c4 H J;dsimp only at H;rw[hv]at c2 H J;obtain⟨z,hz⟩:∃z,u*v=z:=⟨_,rfl⟩;rw[hz]at H J;have aI:IntKind.i64.wrap (u*v)=z:=by rw[hz];exact Zxg _ (by omega)
   have aJ:IntKind.i64.wrap (S k+z)=S (k+1):=by rw[<-H];exact Zxg _ (by omega)
   generalize x.co.length=L at*;clear hz H J aB aC hu hv h9 Z hg;go_wp2;refine Zbc w (by kernel_rfl) (by kernel_rfl) (by go_grown) ?_;intro aE aD;repeat (go_big_quiet_step (fail))
   refine wpQuiet_nil ?_;intro wb p I G;clear aE aD;simp only[World.size_alloc]at G;have n0:=Zw p (Zz m0 _);have n1:=Zw p (Zz m1 _);clear m0 m1 C0 C1 c0 c1 c2 c4;go_wp2;go_roundw;case rel=>exact⟨k+1,by omega,by go_num,rfl,n0,n1,I⟩
   case measure=>simp[intOf]<;>omega
  ·obtain rfl:k=N:=by omega
   have e:S k=R:=m.out;clear h;go_wp2;go_ret;exact⟨Zbm e,E⟩
end Go.Proofs
namespace Go.Proofs
open Go.RowKit
variable {w w':World} {base:Nat} {e:TypeId} {v:Value}
theorem ZoH(hb:Below w.heap.size w w'):w.grownBy w' none:=⟨hb.os,hb.tape,hb.output,hb.size,fun k h _=>hb.block k h⟩
theorem ZP{size:Nat} {n:Nat} {xs:List Value} (h:w.ownsRow base e size v n xs)(hb:Below w.heap.size w w'):w'.ownsRow base e size v n xs:=h.kept (ZoH hb) (by cases v.ownBlock<;>simp)
theorem Zki{α β:Type} (cs:α->List β)(sz:Nat)(m:∀x,(cs x).length=sz):∀(l:List α)(k j:Nat)(x:α)(v:β),l[k]?=some x->(cs x)[j]?=some v->(l.flatMap cs)[k*sz+j]?=some v|[],k,j,x,v,h,_=>by simp at h|a::l,0,j,x,v,h,hv=>by simp only[ZxW,ZzF]at h;subst h;rw[ZxN,Zzy,Zzw,ZxT (Zx0.1 hv).1];exact hv|a::l,k+1,j,x,v,h,hv=>by simp only[ZxV]at h;have p:=Zki cs sz m l k j x v h hv;rw[ZxN,ZxU (by rw[m];rw[Nat.succ_mul];omega),m,show (k+1)*sz+j-sz=k*sz+j by rw[Nat.succ_mul];omega];exact p
theorem ZdG{α:Type} {cs:α->List Value} {sz:Nat} {l:List α} (p:∀x,(cs x).length=sz)(h:w.ownsRow base e sz v l.length (l.flatMap cs)):∃A m,v=.slice A l.length m/\At sz cs w A l:=by
 rcases h.2 with⟨rfl,J⟩|⟨g,m,E,rfl,N,I,L,F,G,R⟩;·have:l=[]:=ZxE J;subst this;exact⟨none,0,rfl,fun k x q=>by simp at q⟩
 ·refine⟨some ⟨g,0,none⟩,m,rfl,fun k x q=>⟨g,0,rfl,(Zwm.1 I).1,fun j u D=>?_⟩⟩;have H:=Zki cs sz p l k j x u q D;have O:j<sz:=by rw[<-p x];exact(Zx0.1 D).1
  have y:k<l.length:=(Zx0.1 q).1;have z:k*sz+j<l.length*sz:=by have:=Zzm sz (Nat.succ_le_of_lt y);rw[Nat.succ_mul]at this;omega
  rw[Zzw,h.cellAt _ z];exact H
variable {w w' x x':World} {base size n sz b c:Nat} {e:TypeId} {v:Value} {xs:List Value} {row:Option Nat} {A:Option Addr}
theorem Z6(h:w.ownsRow base e size v n xs):∃A c,v=.slice A n c:=by
 rcases h.2 with⟨rfl,rfl⟩|⟨g,j,m,p,-⟩;·exact⟨none,0,rfl⟩
 ·exact⟨_,_,p⟩
theorem Za5{j:Nat} (h:w.ownsRow j e size v n xs)(hb:base<=j):w.ownsRow base e size v n xs:=by
 refine⟨h.1,?_⟩;rcases h.2 with h|⟨g,m,p,q,u,y⟩;·exact .inl h
 ·exact .inr ⟨g,m,p,q,Zzb hb u,y⟩
theorem Zap(h:w.ownsRow base e sz v n xs)(hb:∀g,v.ownBlock=some g->w'.heap[g]?=w.heap[g]?):w'.ownsRow base e sz v n xs:=by
 refine⟨h.1,?_⟩;rcases h.2 with h|⟨g,j,m,rfl,p,q,u⟩;·exact .inl h
 ·exact .inr ⟨g,j,m,rfl,p,(hb g rfl).trans q,u⟩
theorem ZdH(h:w.ownsRow base e sz v n xs)(j:w.grownBy w' row)(hne:∀g,v.ownBlock=some g->some g≠row):w'.ownsRow base e sz v n xs:=Zap h fun g e=>j.block g (h.lt g e).2 (hne g e)
theorem ZaL(h:w.ownsRow base e size v n xs)(hb:b<base):some b≠v.ownBlock:=by intro j;have:=(h.lt b j.symm).1;omega
theorem ZaM{o:Obj} (j:x.grownBy x' row)(h:x.heap[b]?=some o)(hne:some b≠row):x'.heap[b]?=some o:=(j.block b (lt_of_block h) hne).trans h
theorem Z3(h:Below w.heap.size w x)(j:x.grownBy x' row)(m:∀b,row=some b->w.heap.size<=b):Below w.heap.size w x':=h.grown j h.size m
theorem Zbp(w:World)(vs:List Value)(t:TypeId)(m:n=w.heap.size):∀j u,vs[j]?=some u->(w.alloc (.cells vs.toArray t)).cell? (Addr.add ⟨n,0,none⟩ j)=some u:=by
 subst m;intro j u p;have h:=heap_alloc_new w (.cells vs.toArray t);have e:Addr.add ⟨w.heap.size,0,none⟩ j=⟨w.heap.size,j,none⟩:=by unfold Addr.add;split<;>simp_all
 rw[e];unfold World.cell?;simp only[h];simpa using p
theorem ZdI(h:w.ownsRow base e 1 (.slice A n c) n xs) {k:Nat} {u:Value} (hu:xs[k]?=some u):∃g,A=some ⟨g,0,none⟩/\base<=g/\g<w.heap.size/\w.cell? ⟨g,k,none⟩=some u:=by
 rcases h.2 with⟨-,j⟩|⟨g,p,q,y,j,m,D,E,F,z⟩;·have:=h.1;rw[j,Zzy]at this;have:xs=[]:=ZxE this;subst this;simp at hu
 ·cases y;refine⟨g,rfl,j,(Zwm.1 m).1,?_⟩;unfold World.cell?;simp only[m];have G:=(Zx0.1 hu).1;have:=h.1;rw[<-z,Zx7,if_pos (by omega),Zww]at hu;simpa using hu
theorem ZaE{l:List Int} (h:w.ownsRow base e 1 (.slice A n c) n (l.map (Value.int .i64))):At 1 Zc w A l:=by intro k x z;obtain⟨g,y,D,p,q⟩:=ZdI h (k:=k) (u:=.int .i64 x) (by rw[Zx1,z];rfl);refine⟨g,0,y,p,fun j v m=>?_⟩;cases j with|zero=>simp[Zc]at m;subst m;simpa using q|succ j=>simp[Zc]at m
theorem ZoI{P:Prop} (h:Hid P):P:=h.out
end Go.Proofs
namespace Go.Proofs
open Tryz
open Go.RowKit
variable {r:List (List Int)}
def qOf(h:Option Nat):Int:=match h with|none=>-1|some c=>(c:Int)
theorem ZhS(r:List (List Int))(j:Option Nat):Zcf r (qOf j)=colF r j:=by funext i c;unfold Zcf colF;cases j with
 |none=>
  have:¬((c:Int)=qOf none):=by show ¬((c:Int)=-1);omega
  rw[if_neg this,if_neg (by simp)]|some d=>
  unfold qOf;by_cases h:d=c;·subst h;simp
  ·have m:¬((c:Int)=(d:Int)):=by omega
   have p:¬(some d=some c):=by simpa using h
   rw[if_neg m,if_neg p]
def Zch(r:List (List Int)):Prop:=∀row∈r,ZM 400 row
theorem Zch.entR(h:Zch r)(i j:Nat):(entR r i j).natAbs<=400:=by unfold Go.Proofs.entR;rw[ZxS (l:=r)];cases hi:r[i]? with|none=>simp|some row=>exact(h row (ZyD hi)).get j
theorem Zch.col(h:Zch r)(q:Int)(n:Nat):ZdF (Zcf r q) n:=fun i j _ _=>h.entR _ _
theorem ZoJ{f:Nat->Nat->Int} {n:Nat} (h:n<=5)(hf:ZdF f n):(ZU f n).natAbs<=32000000000000000:=by unfold ZU;have j:=Zzv n;have:=ZhP h hf (2^n-1) (by omega) (2^n-1) (Zza _);refine Zzb this ?_;have m:=Ze7 n (ZyF.2 (by omega)) (2^n-1) (ZyF.2 (by omega));exact Zzb (Zzs (by omega) (show pop n (2^n-1)<=5 by omega)) (by decide)
def ZdJ(r:List (List Int))(h:Nat)(e:Ending)(w':World):Prop:=match ZaK r with|none=>e=.returned (.tuple #[.slice none 0 0,.int .i64 0,.bool false])|some (l,den)=>∃v,e=.returned (.tuple #[v,.int .i64 den,.bool true])/\w'.ownsRow h 3 1 v l.length (l.map (Value.int .i64))
theorem ZoK(A:Option Addr)(xs:List IR)(m:Nat)(h:Option Nat)(w:World)(j:Zcu w A xs)(q:∀x∈xs,x.l.length=xs.length+1)(p:1<=xs.length)(h5:xs.length<=5)(hs:Zch (xs.map IR.l)):Calls prog 124 #[.slice A xs.length m,.int .i64 (qOf h)] w fun e w'=>e=.returned (.int .i64 (ZR (xs.map IR.l) h))/\Below w.heap.size w w':=by have:=ZoG A xs m xs.length (qOf h) w j rfl q p h5 (hs.col _ _);rw[ZhS]at this;unfold ZR;rw[Zyf];exact this
theorem ZhT(A:Option Addr)(xs:List IR)(cp:Nat)(w:World)(aB:Zcu w A xs)(hl:∀x∈xs,x.l.length=xs.length+1)(h1:1<=xs.length)(h5:xs.length<=5)(hs:Zch (xs.map IR.l)):Calls prog 105 #[.slice A xs.length cp] w fun e w'=>ZdJ (xs.map IR.l) w.heap.size e w'/\Below w.heap.size w w':=by
  have hD:=Zxi fun O W (hb:Below w.heap.size w W)=>ZoK A xs cp O W (aB.below hb) hl h1 h5 hs;have aF:=Zxi fun O=>(by have:=ZoJ h5 (hs.col (qOf O) xs.length);rw[ZhS]at this;unfold ZR;rw[Zyf];exact this:(ZR (xs.map IR.l) O).natAbs<=32000000000000000);have J:(xs.map IR.l).length=xs.length:=Zyf ..;obtain⟨N,hN⟩:∃N,xs.length=N:=⟨_,rfl⟩;obtain⟨r,hr⟩:∃r,xs.map IR.l=r:=⟨_,rfl⟩;rw[hN]at hD h5 h1 J |-;rw[hr]at hD aF J |-;have aJ:=Zxi J;clear aB hl hs hN hr J;have aE:=Zxi fun W hb=>hD.out none W hb;have aP:=aF.out none;obtain⟨y,aI⟩:∃d,ZR r none=d:=⟨_,rfl⟩;rw[aI]at aE aP;have Z:=Zxi aI;by_cases hz:y=0
  · subst hz;go_enter func105,ntmps105;go_wp2_with (go_at_call 124;refine(aE.out _ (ZwJ _ _)).mono ?_;rintro e w1 ⟨rfl,F⟩);refine bodyPost_ret (v:=.tuple #[.slice none 0 0,.int .i64 0,.bool false]) ?_ rfl ⟨?_,F⟩;· simp[results,results105,go_sem]
    · unfold ZdJ ZaK;rw[if_pos Z.out]
  · have aS:(y==0)=false:=by simpa using hz
    have I:=Zxi (show ZaK r=some ((List.range N).map fun i=>ZaQ y*ZR r (some i),ZaQ y*y)from by unfold ZaK;rw[if_neg (by rw[Z.out];exact hz),Z.out,aJ.out]);obtain⟨i0,hi,aM,aN,aO⟩:=info_parts info3;clear aI;by_cases aG:y<0
    · have aD:ZaQ y=-1:=by unfold ZaQ;rw[if_pos aG]
      obtain⟨L,hL⟩:∃L:Nat->List Int,(fun k=>(List.range k).map fun i=>ZaQ y*ZR r (some i))=L:=⟨_,rfl⟩;have j:∀k,((List.range k).map fun i=>ZaQ y*ZR r (some i))=L k:=fun k=>by rw[<-hL]
      have S:∀k,L (k+1)=L k++[-1*ZR r (some k)]:=fun k=>by rw[<-j,<-j,ZyP,aD];simp
      have E:∀k,(L k).length=k:=fun k=>by rw[<-j];simp
      have aH:L 0=[]:=ZxE (E 0);have U:=Zxi S;have R:=Zxi E;rw[j]at I;have aR:IntKind.i64.wrap (-y)=-y:=Zxg _ (by omega);clear hL j S E;go_enter func105,ntmps105;go_wp2_with (go_at_call 124;refine(aE.out _ (ZwJ _ _)).mono ?_;rintro e w1 ⟨rfl,F⟩);go_loopw [7,17] (fun v i wr=>∃k:Nat,k<=N/\i=.int .i64 k/\wr.ownsRow w.heap.size 3 1 v k ((L k).map (Value.int .i64))/\Below w.heap.size w wr)(fun _ i _=>N-(intOf i).toNat);case atStart=>exact⟨0,Zzx _,rfl,by rw[aH];exact World.ownsRow_nil _ _ _ _,F⟩
      case round=>
        clear F;obtain⟨k,hk,rfl,m,G⟩:=hrel;obtain⟨Av,cv,rfl⟩:=Z6 m;have p:=Zxi m;clear m;by_cases aK:k<N
        · have aQ:(k:Int)<(N:Int):=by omega
          have D:=Zxi fun W hb=>hD.out (some k) W hb;have X:=aF.out (some k);have hq:Hid (qOf (some k)=(k:Int)):=rfl;have hs:=U.out k;obtain⟨x,hx⟩:∃x,ZR r (some k)=x:=⟨_,rfl⟩;rw[hx]at D X hs;rw[hq.out]at D;have aL:IntKind.i64.wrap (-x)=-x:=Zxg _ (by omega);have aC:=Zxi (show L (k+1)=L k++[-x]from by rw[hs];simp);clear hx hs hq;go_wp2_with (first
            | (go_at_call 124;refine(D.out _ G).mono ?_;rintro e w2 ⟨rfl,V⟩;have z:=via G V;have h:=Zxi (ZP p.out V))|(at_builtin;refine wpList_append_own _ rfl _ _ 31 rfl w.heap.size 3 i0 (.int .i64 0) 1 8 underlying31 hi aM aN aO rfl (by decide) _ _ _ rfl (h.out.alloc _) ⟨w2.heap.size,0,none⟩ 1 1 [.int .i64 (-x)] rfl rfl ?c1 ?c2 ?c3 ?c4 ?c5 ?_));case c1=>exact Zbp _ [.int .i64 (-x)] _ (by simp)
          case c2=>intro u hu;simp at hu;subst hu;rfl
          case c3=>unfold maxLen;omega
          case c4=>omega
          case c5=>have:=z.size;simp;omega
          intro v' w3 q aA _;have Y:Below w.heap.size w w3:=Z3 (via z (ZC _ _)) aA fun b e=>(h.out.lt b e).1;have H:Hid (w3.ownsRow w.heap.size 3 1 v' (k+1) ((L (k+1)).map (Value.int .i64))):=Zxi (by rw[aC.out,Zyn];exact q);clear q aA h aC X aL;go_wp2;go_roundw;case rel=>exact⟨k+1,by omega,by go_num,H.out,Y⟩
          case measure=>simp[intOf]<;>omega
        · obtain rfl:k=N:=by omega
          clear aK;go_wp2;refine bodyPost_ret (v:=.tuple #[.slice Av k cv,.int .i64 (-y),.bool true]) ?_ rfl ⟨?_,G⟩;· simp[results,results105,go_sem]
          · unfold ZdJ;rw[I.out];exact⟨.slice Av k cv,by rw[aD];simp,by rw[R.out];exact p.out⟩
    · have aD:ZaQ y=1:=by unfold ZaQ;rw[if_neg aG]
      obtain⟨L,hL⟩:∃L:Nat->List Int,(fun k=>(List.range k).map fun i=>ZaQ y*ZR r (some i))=L:=⟨_,rfl⟩;have j:∀k,((List.range k).map fun i=>ZaQ y*ZR r (some i))=L k:=fun k=>by rw[<-hL]
      have S:∀k,L (k+1)=L k++[1*ZR r (some k)]:=fun k=>by rw[<-j,<-j,ZyP,aD];simp
      have E:∀k,(L k).length=k:=fun k=>by rw[<-j];simp
      have aH:L 0=[]:=ZxE (E 0);have U:=Zxi S;have R:=Zxi E;rw[j]at I;have aR:IntKind.i64.wrap (y)=y:=Zxg _ (by omega);clear hL j S E;go_enter func105,ntmps105;go_wp2_with (go_at_call 124;refine(aE.out _ (ZwJ _ _)).mono ?_;rintro e w1 ⟨rfl,F⟩);go_loopw [7,17] (fun v i wr=>∃k:Nat,k<=N/\i=.int .i64 k/\wr.ownsRow w.heap.size 3 1 v k ((L k).map (Value.int .i64))/\Below w.heap.size w wr)(fun _ i _=>N-(intOf i).toNat);case atStart=>exact⟨0,Zzx _,rfl,by rw[aH];exact World.ownsRow_nil _ _ _ _,F⟩
      case round=>
        clear F;obtain⟨k,hk,rfl,m,G⟩:=hrel;obtain⟨Av,cv,rfl⟩:=Z6 m;have p:=Zxi m;clear m;by_cases aK:k<N
        · have aQ:(k:Int)<(N:Int):=by omega
          have D:=Zxi fun W hb=>hD.out (some k) W hb;have X:=aF.out (some k);have hq:Hid (qOf (some k)=(k:Int)):=rfl;have hs:=U.out k;obtain⟨x,hx⟩:∃x,ZR r (some k)=x:=⟨_,rfl⟩;rw[hx]at D X hs;rw[hq.out]at D;have aL:IntKind.i64.wrap (x)=x:=Zxg _ (by omega);have aC:=Zxi (show L (k+1)=L k++[x]from by rw[hs];simp);clear hx hs hq;go_wp2_with (first
            | (go_at_call 124;refine(D.out _ G).mono ?_;rintro e w2 ⟨rfl,V⟩;have z:=via G V;have h:=Zxi (ZP p.out V))|(at_builtin;refine wpList_append_own _ rfl _ _ 31 rfl w.heap.size 3 i0 (.int .i64 0) 1 8 underlying31 hi aM aN aO rfl (by decide) _ _ _ rfl (h.out.alloc _) ⟨w2.heap.size,0,none⟩ 1 1 [.int .i64 (x)] rfl rfl ?c1 ?c2 ?c3 ?c4 ?c5 ?_));case c1=>exact Zbp _ [.int .i64 (x)] _ (by simp)
          case c2=>intro u hu;simp at hu;subst hu;rfl
          case c3=>unfold maxLen;omega
          case c4=>omega
          case c5=>have:=z.size;simp;omega
          intro v' w3 q aA _;have Y:Below w.heap.size w w3:=Z3 (via z (ZC _ _)) aA fun b e=>(h.out.lt b e).1;have H:Hid (w3.ownsRow w.heap.size 3 1 v' (k+1) ((L (k+1)).map (Value.int .i64))):=Zxi (by rw[aC.out,Zyn];exact q);clear q aA h aC X aL;go_wp2;go_roundw;case rel=>exact⟨k+1,by omega,by go_num,H.out,Y⟩
          case measure=>simp[intOf]<;>omega
        · obtain rfl:k=N:=by omega
          clear aK;go_wp2;refine bodyPost_ret (v:=.tuple #[.slice Av k cv,.int .i64 (y),.bool true]) ?_ rfl ⟨?_,G⟩;· simp[results,results105,go_sem]
          · unfold ZdJ;rw[I.out];exact⟨.slice Av k cv,by rw[aD];simp,by rw[R.out];exact p.out⟩
end Go.Proofs
namespace Go.Proofs
variable {n k:Nat} {l W ws:List Int} {den lev x g:Int} {es:List Ex}
def Zei:Nat->Nat|0=>1|n+1=>(n+1)*Zei n
theorem ZhU{f:Nat->Nat->Int} {M:List Int} {row set Z:Nat}:∀(c:Nat)(acc m:Int),(m=1∨m=-1)->(∀j,j<c->(f row j).natAbs<=400)->(∀j,j<c->(set>>>j)%2=1->(M.getD (set-2^j) 0).natAbs<=Z)->(ZaJ f M row set c acc m).natAbs<=acc.natAbs+pop c set*(400*Z)
 |0,acc,_,_,_,_=>by unfold ZaJ;omega|c+1,acc,m,hs,hf,hM=>by
  unfold ZaJ pop;have u:(-m=1∨-m=-1):=by omega
  split;·rename_i y;have:=ZhU c acc m hs (fun j q=>hf j (by omega)) fun j q=>hM j (by omega);rw[y,Zy6];exact this
  ·rename_i y;have p:(set>>>c)%2=1:=by omega
   have D:=Zaj (hf c (by omega)) (hM c (by omega) p);have z:∀h,h.natAbs<=acc.natAbs+400*Z->(ZaJ f M row set c h (-m)).natAbs<=acc.natAbs+(pop c set+1)*(400*Z):=fun h E=>by have:=ZhU c h (-m) u (fun j q=>hf j (by omega)) fun j q=>hM j (by omega);rw[Zy3];omega
   rw[p];refine z _ ?_;split;·omega
   ·rw[Int.mul_assoc];rcases hs with rfl|rfl<;>omega
theorem Zkj{f:Nat->Nat->Int} {n:Nat} (E:n<=5)(hf:ZdF f n):∀s,s<2^n->∀k,k<=s->((dpM f n s).getD k 0).natAbs<=Zei (pop n k)*400^pop n k
 |0,_,k,hk=>by
  obtain rfl:k=0:=by omega
  have:∀m,pop m 0=0:=fun m=>by induction m with|zero=>rfl|succ m u=>unfold pop;rw[u];simp
  rw[this];simp[dpM,Zei]|s+1,hs,k,hk=>by
  have u:=Zkj E hf s (by omega);have N:=ZcK f n s;unfold dpM;by_cases z:k<=s;·rw[Zkf (by omega)];exact u k z
  ·obtain rfl:k=s+1:=by omega
   rw[ZhO (by omega)];have h:n∈List.range 6:=ZyF.2 (by omega);have q:s+1∈List.range (2^n):=ZyF.2 hs;have G:=Zke n h _ q (by omega);have H:=Ze7 n h _ q;unfold Zb1;have:=ZhU (f:=f) (M:=dpM f n s) (row:=pop n (s+1)-1) (set:=s+1) (Z:=Zei (pop n (s+1)-1)*400^(pop n (s+1)-1)) n 0 1 (.inl rfl) (fun j y=>hf _ _ (by omega) y) fun j y D=>by obtain⟨I,J⟩:=ZhM n h _ q j (ZyF.2 y) D;have L:=Zzv j;have:=u (s+1-2^j) (by omega);rwa [show pop n (s+1-2^j)=pop n (s+1)-1 by omega]at this
   refine Zzb this ?_;obtain⟨p,F⟩:∃p,pop n (s+1)=p+1:=⟨pop n (s+1)-1,by omega⟩;rw[F];simp only[Zy4,Int.natAbs_zero,Zzw,Nat.pow_succ,Zei];refine Nat.le_of_eq ?_;ac_rfl
theorem ZoL{f:Nat->Nat->Int} (j:n<=5)(hf:ZdF f n):(ZU f n).natAbs<=1228800000000000:=by
 unfold ZU;have m:=Zzv n;have:=Zkj j hf (2^n-1) (by omega) (2^n-1) (Zza _);refine Zzb this ?_;have q:=Ze7 n (ZyF.2 (by omega)) (2^n-1) (ZyF.2 (by omega));have h:pop n (2^n-1)<=5:=by omega
 generalize pop n (2^n-1)=p at h;have:∀p,p<=5->Zei p*400^p<=1228800000000000:=by decide
 exact this p h
theorem ZfY{r:List (List Int)} (h:ZaK r=some (l,den))(h5:r.length<=5)(hs:Zch r):l.length=r.length/\den.natAbs<=1228800000000000/\0<den/\ZM 1228800000000000 l:=by
 have p:∀j,(ZR r j).natAbs<=1228800000000000:=fun j=>by have:=ZoL h5 (hs.col (qOf j) r.length);rw[ZhS]at this;exact this
 have m:∀d x:Int,(ZaQ d*x).natAbs=x.natAbs:=fun d x=>by unfold ZaQ;split<;>omega
 unfold ZaK at h;split at h;·cases h
 rename_i u;obtain⟨rfl,rfl⟩:_/\_:=by simpa using h
 refine⟨by simp,by rw[m];exact p _,?_,fun x q=>?_⟩;·unfold ZaQ;split<;>omega
 ·obtain⟨i,-,rfl⟩:=ZyC.1 q;rw[m];exact p _
theorem ZJ.at'{T:TypeId} {W:World} {B:Nat} (h:ZJ T W B l):At 1 Zc W (some ⟨B,0,none⟩) l:=by intro k x p;refine⟨B,0,rfl,h.size,fun j v m=>?_⟩;cases j with|zero=>simp[Zc]at m;subst m;simpa using h.load p|succ j=>simp[Zc]at m
theorem ZfZ{l:List Int} {K:Nat} (m:ZM K l):∀(t:List Nat)(k:Nat)(W:List Int),ZM K W->ZM K (putW l k t W)
 |[],_,_,h=>h|i::t,k,W,h=>by
  unfold putW;refine ZfZ m t (k+1) _ fun x j=>?_;rcases List.mem_or_eq_of_mem_set j with j|rfl;·exact h x j
  ·exact m.get _
theorem Zkk(l:List Int):∀(t:List Nat)(k:Nat)(W:List Int)(i:Nat),putW l k (t++[i]) W=(putW l k t W).set i (l.getD (k+t.length+1) 0)|[],k,W,i=>rfl|j::t,k,W,i=>by simp only[Zxt,putW,Zyd];rw[Zkk l t (k+1) _ i,show k+1+t.length+1=k+(t.length+1)+1 by omega]
theorem Zkl(l:List Int) {t:List Nat} {i:Nat} (h:t[k]?=some i):putW l 0 (t.take (k+1)) W=(putW l 0 (t.take k) W).set i (l.getD (k+1) 0):=by have j:k<t.length:=(Zx0.1 h).1;rw[ZyV,h];have:=Zkk l (t.take k) 0 W i;rwa [Zyj,Zzk (by omega),Zzw]at this
theorem Zkm(j:k<n)(h:l.getD (k+1) 0<0):(List.range n).any (fun k=>l.getD (k+1) 0<0)=true:=by rw[Zxo];exact⟨k,ZyF.2 j,by simpa using h⟩
theorem Zkn(h:∀k,k<n->¬(l.getD (k+1) 0<0)):(List.range n).any (fun k=>l.getD (k+1) 0<0)=false:=by rw[Zxn];intro k j;simpa using h k (ZyF.1 j)
theorem ZhV(es:List Ex)(den lev:Int)(W:List Int):∀(ws:List Int)(m:Nat),Zce es den lev W m ws=true↔∀j,j<ws.length->lev<=ws.getD j 0*den+putsL es W (m+j)
 |[],_=>by simp[Zce]|w::ws,m=>by
  unfold Zce;rw[ZwL,decide_eq_true_eq,ZhV es den lev W ws (m+1)];constructor;·rintro⟨q,u⟩ j p;cases j with|zero=>simpa using q|succ j=>have:=u j (by simpa using p);rwa [show m+1+j=m+(j+1)by omega]at this
  ·intro h;refine⟨by simpa using h 0 (by simp),fun j p=>?_⟩;have:=h (j+1) (by simpa using p);rwa [show m+(j+1)=m+1+j by omega]at this
theorem ZoM{j:Nat} (p:j<ws.length)(h:ws.getD j 0*den+putsL es W j<lev):Zce es den lev W 0 ws=false:=by rw[Bool.eq_false_iff];intro m;have:=(ZhV es den lev W ws 0).1 m j p;rw[Zzw]at this;omega
theorem ZoN(h:∀j,j<ws.length->¬(ws.getD j 0*den+putsL es W j<lev)):Zce es den lev W 0 ws=true:=(ZhV es den lev W ws 0).2 fun j m=>by have:=h j m;rw[Zzw];omega
theorem ZhW(h0:0<g)(j:g∣x):x.tdiv g=x / g/\(x / g).natAbs<=x.natAbs:=by
 obtain⟨y,rfl⟩:=j;have h:g≠0:=by omega
 rw[Int.mul_tdiv_cancel_left _ h,Int.mul_ediv_cancel_left _ h];refine⟨rfl,?_⟩;rw[Int.natAbs_mul];exact Nat.le_mul_of_pos_left _ (by omega)
theorem ZdK{K:Nat} (h0:0<g)(j:g∣x)(hx:x.natAbs<=K)(p:K<=9000000000000000000):IntKind.i64.wrap (x.tdiv g)=x / g:=by obtain⟨h,m⟩:=ZhW h0 j;rw[h];exact Zxg _ (by omega)
theorem Zko{w:World} {R base:Nat} (h:ZJ 3 w R l)(j:l.length=n)(m:n<=1000)(hb:base<=R):w.ownsRow base 3 1 (.slice (some ⟨R,0,none⟩) n n) n (l.map (Value.int .i64)):=by refine⟨by simpa using j,.inr ⟨R,n,_,rfl,hb,h,Zza _,by unfold maxLen;omega,by rw[Zj2];omega,?_⟩⟩;simp only[Zax,Zzn,ZyT,List.toList_toArray];rw[ZyX (by simp;omega)]
theorem Zkp(h:k<W.length):(((W.take k).map (· / g))++W.drop k).set k (W.getD k 0 / g)=(W.take (k+1)).map (· / g)++W.drop (k+1):=by have j:=ZxX h;rw[ZxS,j,ZyV,j,ZxA h,ZyS _ _ (by simp;omega),Zyn,Zxp];rw[show k-((W.take k).map (· / g)).length=0 from by simp;omega];rfl
theorem Zkq(h:k<W.length):(((W.take k).map (· / g))++W.drop k)[k]?=some (W.getD k 0):=by rw[ZxU (by simp;omega)];simp[Zzk (Nat.le_of_lt h),ZxS,h]
end Go.Proofs
namespace Go.Proofs
open Tryz
open Go.RowKit
theorem Zkr(s:ByteArray)(w:World)(hs:s.size<=9223372036854775807):Calls prog 25 #[.string s] w fun e w'=>e=.returned (.bool (Zam s.data.toList))/\w=w':=by
  have h:Hid (s.data.toList.length=s.size):=by simp[Hid]
  by_cases N:s.size<1
  · have J:(s.size:Int)<1:=by omega
    have y:Zam s.data.toList=false:=by unfold Zam;rw[h.out];simp;omega
    rw[y];clear y h;go_enter func25,ntmps25;go_wp2;go_ret;exact⟨rfl,rfl⟩
  · have J:¬(s.size:Int)<1:=by omega
    by_cases O:12<s.size
    · have L:12<(s.size:Int):=by omega
      have y:Zam s.data.toList=false:=by unfold Zam;rw[h.out];simp;omega
      rw[y];clear y h;go_enter func25,ntmps25;go_wp2;go_ret;exact⟨rfl,rfl⟩
    · have L:¬12<(s.size:Int):=by omega
      go_enter func25,ntmps25;go_wp2;go_loop [3] (fun i=>∃k:Nat,k<=s.size/\i=.int .i64 k/\Hid (∀j,j<k->Zbx j ((s.data.toList.getD j 0).toNat:Int)=true))(fun i=>s.size-(intOf i).toNat);case atStart=>exact⟨0,Zzx _,rfl,fun j E=>by omega⟩
      case round=>
        obtain⟨k,R,rfl,u⟩:=hrel;by_cases p:k<s.size
        · obtain⟨c,I⟩:∃c:UInt8,s[k]'p=c:=⟨_,rfl⟩;have m:Hid (s.data.toList.getD k 0=c):=by unfold Hid;rw[<-I,ZxS,ZxX (by rw[h.out];exact p)];simp;rfl
          have H:(0:Int)<=(c.toNat:Int):=by omega
          by_cases z:k=0
          · have F:((k:Int)==0)=true:=by simp[z]
            have q:=Zxi z;clear z;go_wp2;all_goals first
              |(exfalso;have:=q.out;simp at*;omega)
              | (go_round;case rel=>exact⟨k+1,by omega,by go_num,Zhv u m (Zhx _ _ (by have:=q.out;simp at*;omega))⟩
                 case measure=>simp[intOf];omega)|(go_ret;exact⟨Zct (Zhw (k:=k) h p m (Zhy _ _ (by have:=q.out;simp at*;omega))).symm,rfl⟩)
          · have F:((k:Int)==0)=false:=by simp[z]
            go_wp2;all_goals first
              |(exfalso;simp at*;omega)
              | (go_round;case rel=>exact⟨k+1,by omega,by go_num,Zhv u m (Zhx _ _ (by simp at*;omega))⟩
                 case measure=>simp[intOf];omega)|(go_ret;exact⟨Zct (Zhw (k:=k) h p m (Zhy _ _ (by simp at*;omega))).symm,rfl⟩)
        · have G:k=s.size:=by omega
          subst G;have D:ZcJ s.data.toList=true:=ZjW _ (fun j E=>u.out j (by rw[h.out]at E;exact E));have y:Zam s.data.toList=true:=by unfold Zam;rw[D,h.out];simp;omega
          go_wp2;go_ret;exact⟨rfl,rfl⟩
def ZbI(lo hi m:Int):Int:=Z1 [unl (Z2 lo 0 m&&Z2 hi 0 m) 2,unl (decide (lo<=hi)) 9]
end Go.Proofs
namespace Go.Proofs
open Go.RowKit
section
variable {P:Program} {ops:Array Oper}
def Zay(ops:Array Oper):Bool:=(List.range ops.size).all fun i=>match ops[i]? with|none=>true|some o=>((o.looksAt ops).all fun s=>(List.range ops.size).all fun j=>match ops[j]? with|none=>true| some oj => oj.dst != some s || (decide (j < i) && o.after.any fun e => Region.binds .any e && e.on == j)) && ((List.range ops.size).all fun j=>match ops[j]? with|none=>true| some oj => j == i || o.dst.isNone || oj.dst != o.dst) && (o.after.all fun e=>!Region.binds .any e||decide (e.on<i))
structure SlotsOk (ops:Array Oper):Prop where
 look:∀(i:Nat)(o:Oper)(s j:Nat)(oj:Oper),ops[i]?=some o->s∈o.looksAt ops->ops[j]?=some oj->oj.dst=some s->j<i/\∃e∈o.after,Region.binds .any e=true/\e.on=j
 dst:∀(i j:Nat)(o oj:Oper)(s:Nat),ops[i]?=some o->ops[j]?=some oj->o.dst=some s->oj.dst=some s->j=i
 after:∀(i:Nat)(o:Oper)(e:Edge),ops[i]?=some o->e∈o.after->Region.binds .any e=true->e.on<i
theorem Zaz{i:Nat} {o:Oper} (h:ops[i]?=some o):i<ops.size:=(Zwm.1 h).1
theorem Zej(h:Zay ops=true):SlotsOk ops:=by
 unfold Zay at h;simp only[Zxl,ZyF]at h;refine⟨fun i o s j H hi G q y=>?_,fun i j o H s hi q y z=>?_,fun i o e hi D u=>?_⟩;·have m:=h i (Zaz hi);simp only[hi,ZwL,Zxl,ZyF]at m;have p:=m.1.1 s G j (Zaz q);simp only[q,y,ZwU,ZwL,decide_eq_true_eq,bne_self_eq_false,ZwP,false_or]at p;obtain⟨E,F⟩:=p;obtain⟨e,D,u⟩:=Array.any_eq_true'.1 F;simp only[ZwL,beq_iff_eq]at u;exact⟨E,e,D,u⟩
 ·have m:=h i (Zaz hi);simp only[hi,ZwL,Zxl,ZyF]at m;have p:=m.1.2 j (Zaz q);simpa [q,y,z] using p
 ·have m:=h i (Zaz hi);simp only[hi,ZwL]at m;have p:=Zv9.1 m.2 e D;simpa [u] using p
theorem ZoO{a b:Act} (h:a.defers=b.defers)(j:∀s:Nat,a.tmps[s]?=b.tmps[s]?):a=b:=by obtain⟨t,d⟩:=a;obtain⟨m,p⟩:=b;dsimp only at h j;subst h;have:t=m:=Zwe j;subst this;rfl
theorem ZoP{a b:Act} {x:Operand} (h:∀t:Nat,x=.tmp t->a.tmps[t]?=b.tmps[t]?):a.eval x=b.eval x:=by cases x with|tmp t=>have:=h t rfl;simp[Act.eval,this]|_=>rfl
theorem ZhX{o:Oper} {a b:Act} (j:∀cs b,o.op≠.select cs b)(h:∀s∈o.looksAt ops,a.tmps[s]?=b.tmps[s]?):execOp a.eval o=execOp b.eval o:=execOp_congr o j fun x p=>ZoP fun t m=>h t (by subst m;exact Zyv _ (List.mem_filterMap.2 ⟨.tmp t,by simpa using p,rfl⟩))
theorem Zks{o:Oper} {a b:Act} (h:∀s∈o.looksAt ops,a.tmps[s]?=b.tmps[s]?):Region.wanted o (yielded ops a.tmps)=Region.wanted o (yielded ops b.tmps):=by unfold Region.wanted;cases m:o.guard with
 |none=>rfl|some gw=>
  obtain⟨g,j⟩:=gw;have q:yielded ops a.tmps g=yielded ops b.tmps g:=by unfold yielded;cases p:(ops[g]?).bind (·.dst)with
   |none=>rfl|some t=>have:=h t (by simp[Oper.looksAt,m,p]);simp[this]
  simp only[q]
theorem ZhY{C:World->Prop} {o:Oper} {v:Value} {a b:Act} (j:∀cs b,o.op≠.select cs b)(h:∀s∈o.looksAt ops,a.tmps[s]?=b.tmps[s]?)(m:YieldsIn P ops C o v a):YieldsIn P ops C o v b:=m.of_same (ZhX j h).symm (Zks h).symm
theorem Ze8{a:Act} {d:Option Tmp} {v:Value} {s:Nat} (h:d≠some s):(a.put d v).tmps[s]?=a.tmps[s]?:=by cases d with|none=>rfl|some d=>have j:d≠s:=fun e=>h (by rw[e]);simp[Act.put,Zwu j]
theorem Ze9{a:Act} {d:Option Tmp} {v:Value}:(a.put d v).tmps.size=a.tmps.size:=by cases d<;>simp[Act.put]
theorem Zf0{a:Act} {d:Option Tmp} {v:Value}:(a.put d v).defers=a.defers:=by cases d<;>rfl
theorem Zf1{a:Act} {d:Nat} {v:Value} (h:d<a.tmps.size):(a.put (some d) v).tmps[d]?=some v:=by simp[Act.put,h]
theorem ZhZ{a:Act} {d:Nat} {v:Value} (h:¬d<a.tmps.size):(a.put (some d) v).tmps[d]?=none:=by simp[Act.put];omega
theorem Zh0(H:SlotsOk ops)(u:∀(j:Nat)(o:Oper) cs b,ops[j]?=some o->o.op≠.select cs b) {C:World->Prop} {p:Act}:∀(l:List Oper)(k:Nat)(a:Act),(∀j,l[j]?=ops[k+j]?)->wpQuiet P ops C (fun E=>E=p) l a->(∀i o,k<=i->ops[i]?=some o->∃v,YieldsIn P ops C o v p/\∀d,o.dst=some d->d<p.tmps.size->p.tmps[d]?=some v)/\a.tmps.size=p.tmps.size/\a.defers=p.defers/\∀s,(∀j m,k<=j->ops[j]?=some m->m.dst≠some s)->a.tmps[s]?=p.tmps[s]?
 |[],k,a,hl,h=>by have V:a=p:=h;subst V;refine⟨fun i o hi y=>?_,rfl,rfl,fun s _=>rfl⟩;have:=hl (i-k);rw[show k+(i-k)=i by omega,y]at this;simp at this|o::rest,k,a,hl,h=>by
  have q:ops[k]?=some o:=by simpa using (hl 0).symm
  have Y:qOp P ops C k (wpQuiet P ops C (fun E=>E=p) rest) a:=by unfold qOp;simp only[q];exact h
  obtain⟨v,Z,X⟩:=yieldsIn_of_qOp q Y;obtain⟨i1,S,i3,O⟩:=Zh0 H u rest (k+1) (a.put o.dst v) (fun j=>by have:=hl (j+1);rw[ZxV]at this;rw[this];congr 1;omega) X;have F:∀s∈o.looksAt ops,a.tmps[s]?=p.tmps[s]?:=fun s D=>by
   have R:∀j m,k<=j->ops[j]?=some m->m.dst≠some s:=fun j m J y z=>by have:=(H.look k o s j m q D y z).1;omega
   rw[<-O s (fun j m J=>R j m (by omega)),Ze8 (R k o (Zza _) q)]
  refine⟨fun i U hi y=>?_,by rw[<-S,Ze9],by rw[<-i3,Zf0],fun s D=>?_⟩
  ·by_cases I:i=k;·subst I;obtain rfl:o=U:=ZzE (q.symm.trans y);refine⟨v,ZhY (u _ _ · · q) F Z,fun d z L=>?_⟩;rw[<-O d (fun j m J N G=>by have:=H.dst i j o m d q N z G;omega),z];exact Zf1 (by rw[<-Ze9 (a:=a) (d:=o.dst) (v:=v),S];exact L)
   ·exact i1 i U (by omega) y
  ·rw[<-O s (fun j m J=>D j m (by omega)),Ze8 (D k o (Zza _) q)]
def Zek(n:Nat)(h:Array Bool):Nat:=((List.range n).filter fun j=>!h.getD j true).length
theorem Zkt{α:Type} {p q:α->Bool}:∀(l:List α),(∀x,q x=true->p x=true)->(l.filter q).length<=(l.filter p).length
 |[],_=>Zza _|x::l,h=>by
  have m:=Zkt l h;simp only[ZxJ];by_cases j:q x=true;·rw[if_pos j,if_pos (h x j)];simpa using m
  ·rw[if_neg j];split;·simp only[Zyd];omega
   ·exact m
theorem Zku{α:Type} {p q:α->Bool}:∀(l:List α),(∀x,q x=true->p x=true)->(∃x∈l,p x=true/\q x=false)->(l.filter q).length<(l.filter p).length
 |[],_,h=>by obtain⟨x,u,_⟩:=h;cases u|y::l,h,u=>by
  obtain⟨x,m,z,D⟩:=u;simp only[ZxJ];rcases Zyx.1 m with rfl|m;·rw[if_neg (by rw[D];decide),if_pos z];have:=Zkt l h;simp only[Zyd];omega
  ·have E:=Zku l h ⟨x,m,z,D⟩;by_cases j:q y=true;·rw[if_pos j,if_pos (h y j)];simpa using E
   ·rw[if_neg j];split;·simp only[Zyd];omega
    ·exact E
theorem Zf2{n i:Nat} {m:Array Bool} (hi:i<n)(h:m.getD i true=false):Zek n (m.setIfInBounds i true)<Zek n m:=by
 refine Zku _ (fun j q=>?_) ⟨i,ZyF.2 hi,by simp[h],?_⟩
 ·by_cases p:i=j;·subst p;simp[h]
  ·rw[getD_set_ne true p]at q;exact q
 ·have:(m.setIfInBounds i true).getD i true=true:=by simp only[Zwh,Zwt];by_cases u:i<m.size<;>simp[u]
  rw[this];rfl
end
section
variable {P:Program} {ops:Array Oper}
def Zel(ops:Array Oper)(h:Array Bool)(a b:Act):Prop:=a.tmps.size=b.tmps.size/\a.defers=b.defers/\∀s:Nat,(∀(j:Nat)(m:Oper),ops[j]?=some m->m.dst=some s->h.getD j true=true)->a.tmps[s]?=b.tmps[s]?
theorem ZdL{m:Array Bool} {j:Nat} (h:m.getD j false=true):m.getD j true=true:=by
 rcases Zzg j m.size with p|p;·simp[p]at h |-;exact h
 ·simp[Zwl p]at h
theorem Zkv(H:SlotsOk ops) {m:Array Bool} {a b:Act} (h:Zel ops m a b) {i:Nat} {o:Oper} (hi:ops[i]?=some o)(F:i∈Region.ready .any ops m):∀s∈o.looksAt ops,a.tmps[s]?=b.tmps[s]?:=fun s G=>h.2.2 s fun j J E z=>by obtain⟨_,e,D,y,u⟩:=H.look i o s j J hi G E z;obtain⟨_,I,q,p⟩:=mem_ready.1 F;obtain rfl:o=I:=ZzE (hi.symm.trans q);have:=p e D y;rw[u]at this;exact ZdL this
theorem Zf3(H:SlotsOk ops) {m:Array Bool} {a b:Act} (h:Zel ops m a b) {i:Nat} {o:Oper} (hi:ops[i]?=some o) {v:Value} (hv:∀s,o.dst=some s->s<b.tmps.size->b.tmps[s]?=some v):Zel ops (m.setIfInBounds i true) (a.put o.dst v) b:=by
 refine⟨by rw[Ze9];exact h.1,by rw[Zf0];exact h.2.1,fun s E=>?_⟩;by_cases u:o.dst=some s
 ·rw[u];by_cases p:s<b.tmps.size;·rw[Zf1 (by rw[h.1];exact p),hv s u p]
  ·rw[ZhZ (by rw[h.1];exact p),Zwl (by omega)]
 ·rw[Ze8 u];refine h.2.2 s fun j D z q=>?_;have y:i≠j:=by rintro rfl;obtain rfl:o=D:=ZzE (hi.symm.trans z);exact u q
  have:=E j D z q;rwa [getD_set_ne true y]at this
def above(u:World):World->Prop:=fun x=>Below u.heap.size u x
def Before(ops:Array Oper)(w:World)(m k:Nat)(j:Act)(h:Array Bool)(a:Act)(x:World):Prop:=h.getD m true=false/\h.getD k true=false/\Zel ops h a j/\Below w.heap.size w x
theorem Zkw{C:World->Prop} {Q:Exit->Act->World->Prop} {i:Nat} {o:Oper} {v:Value} {a:Act} {x:World} {K:Act->World->Prop} (hi:ops[i]?=some o)(u:YieldsIn P ops C o v a)(p:C x)(h:∀x',C x'->K (a.put o.dst v) x'):wpOp P ops Q i K a x:=wpOp_of_qOp (K:=fun m=>m=a.put o.dst v) p (fun m w' j q=>by subst q;exact h w' j) (u.qOp hi rfl)
theorem Zem(H:SlotsOk ops) {m:Array Bool} (hz:m.size=ops.size)(h:Region.ready .any ops m=[]):∀j,j<ops.size->m.getD j true=true:=by intro j;induction j using Nat.strongRecOn with|_ j ih=>intro q;cases E:m.getD j true with
  |true=>rfl|false=>exfalso;have:j∈Region.ready .any ops m:=mem_ready.2 ⟨E,ops[j],Zwk q,fun e D z=>by
    have u:=H.after j _ e (Zwk q) D z;have p:=ih e.on u (by omega);have y:e.on<m.size:=by omega
    simp[y]at p |-;exact p⟩;rw[h]at this;cases this
theorem Zkx{m:Array Bool} {a b:Act} (h:Zel ops m a b)(hu:∀j,j<ops.size->m.getD j true=true):a=b:=ZoO h.2.1 fun s=>h.2.2 s fun j q p _=>hu j (Zaz p)
end
theorem Zky(u:World):above u=fun w'=>∃x:Grew u,w'=x.val:=by funext w';exact propext ⟨fun h=>⟨⟨w',h⟩,rfl⟩,fun⟨x,j⟩=>by subst j;exact x.ok⟩
section
variable {P:Program} {ops:Array Oper}
theorem Zf4{h:Array Bool} (j:Nat):(h.setIfInBounds j true).getD j true=true:=by simp only[Zwh,Zwt];by_cases m:j<h.size<;>simp[m]
end
section
variable {P:Program} {ops:Array Oper}
def yieldsC(v:Value)(o:Oper):Oper:={o with op:=.move (.const v)}
end
section
variable {P:Program} {ops:Array Oper}
structure Gh where
 b:Nat
 a1:Option Addr
 a2:Option Addr
 a3:Option Addr
 c1:Nat
 c2:Nat
 c3:Nat
def Gh.zero:Gh:=⟨0,none,none,none,0,0,0⟩
def upd(g:Nat->Gh)(j:Nat)(h:Gh):Nat->Gh:=fun k=>if k=j then h else g k
def Zby(L:Nat->Bool)(j:Nat):Nat->Bool:=fun k=>k==j||L k
def mixL(sp:List Nat)(h:Nat->Gh->Value)(g:Nat->Gh):Nat->List Oper->List Oper|_,[]=>[]|i,o::l=>(if sp.contains i then yieldsC (h i (g i)) o else o)::mixL sp h g (i+1) l
theorem ZcL(sp:List Nat) (h:Nat->Gh->Value) (g:Nat->Gh):∀(l:List Oper) (i j:Nat),(mixL sp h g i l)[j]?=(l[j]?).map fun o=>if sp.contains (i+j)then yieldsC (h (i+j) (g (i+j))) o else o|[],i,j=>by simp[mixL]|o::l,i,0=>by simp[mixL]|o::l,i,j+1=>by simp only[mixL,ZxV];rw[ZcL sp h g l (i+1) j];congr 2;funext o;rw[show i+1+j=i+(j+1)by omega]
def ZaS(ops:Array Oper)(j:Nat):Nat->List Oper->List Nat->List Nat|_,[],acc=>acc|i,o::l,acc=>ZaS ops j (i+1) l (if i==j||(o.looksAt ops).any acc.contains then (match o.dst with|some d=>d::acc|none=>acc)else acc)
theorem Zh1{j:Nat} {G:Nat->Prop} (u:∀(i:Nat)(o:Oper)(d:Nat),ops[i]?=some o->o.dst=some d->(i=j∨∃s∈o.looksAt ops,G s)->G d):∀(l:List Oper)(i:Nat)(acc:List Nat),(∀k,l[k]?=ops[i+k]?)->(∀d∈acc,G d)->∀d∈ZaS ops j i l acc,G d
 |[],i,acc,_,ha,d,hd=>ha d hd|o::l,i,acc,hl,ha,d,hd=>by
  unfold ZaS at hd;refine Zh1 u l (i+1) _ (fun k=>by have:=hl (k+1);rw[ZxV]at this;rw[this];congr 1;omega) ?_ d hd;intro q m;split at m;·rename_i y;cases p:o.dst with|none=>rw[p]at m;exact ha q m|some e=>
    rw[p]at m;rcases Zyx.1 m with rfl|E
    ·refine u i o q (by simpa using (hl 0).symm) p ?_;simp only[ZwU,beq_iff_eq,Zxo,List.contains_iff_mem]at y;rcases y with h|⟨s,z,D⟩;·exact .inl h
     ·exact .inr ⟨s,z,ha s D⟩
    ·exact ha q E
  ·exact ha q m
def ZaN(cs:List Nat):Nat->List Value->List Value|_,[]=>[]|i,v::l=>(if cs.contains i then undef else v)::ZaN cs (i+1) l
theorem Zkz(cs:List Nat):∀(l:List Value)(i s:Nat),(ZaN cs i l)[s]?=(l[s]?).map fun v=>if cs.contains (i+s)then undef else v|[],i,s=>by simp[ZaN]|v::l,i,0=>by simp[ZaN]|v::l,i,s+1=>by simp only[ZaN,ZxV];rw[Zkz cs l (i+1) s];congr 2;funext v;rw[show i+1+s=i+(s+1)by omega]
theorem ZkA{cs:List Nat} {t j:Array Value} (h:ZaN cs 0 t.toList=ZaN cs 0 j.toList) {s:Nat} (hs:s∉cs):t[s]?=j[s]?:=by
 have:=congrArg (fun l=>l[s]?) h;simp only[Zkz,Zzw]at this;have m:cs.contains s=false:=by simpa using hs
 rw[m]at this;simpa using this
def Zci(P:Program)(K:Value->World->Prop):Result Next->Prop|.ok (.value v) x=>K v x|.ok .skip x=>K undef x|.ok (.enter f args) x=>Calls P f args x fun e x'=>∃v,e=.returned v/\K v x'|_=>False
theorem ZkB{o:Oper} {a:Act} {x:World} {K:Value->World->Prop} {N:Act->World->Prop} {Q:Exit->Act->World->Prop} (h:Zci P K ((execOp a.eval o).run P x))(hN:∀v x',K v x'->N (a.put o.dst v) x'):o.wp P a x N Q:=by unfold Oper.wp;cases j:(execOp a.eval o).run P x with
 |ok n x'=>rw[j]at h;cases n with
  |value v=>exact hN _ _ h|skip=>exact hN _ _ h|enter f args=>rw[Oper.upon_enter];refine Calls.mono h ?_;rintro e p ⟨v,rfl,m⟩;exact hN _ _ m|_=>exact h.elim
 |_=>rw[j]at h;exact h.elim
theorem Zau{K:Value->World->Prop} {r:Result Next} {v:Value} {x:World} (j:r=.ok (.value v) x)(h:K v x):Zci P K r:=by subst j;exact h
theorem Zc7{K:Value->World->Prop} {r:Result Next} {x:World} (j:r=.ok .skip x)(h:K undef x):Zci P K r:=by subst j;exact h
theorem Zb2{K:Value->World->Prop} {r:Result Next} {x:World} {f:FuncId} {args:Array Value} (j:r=.ok (.enter f args) x)(h:Calls P f args x fun e x'=>∃v,e=.returned v/\K v x'):Zci P K r:=by subst j;exact h
def spB(ops:Array Oper)(sp:List Nat):Bool:=sp.all fun j=>match ops[j]? with|some o=>o.guard.isNone|none=>false
def Zc8(ops:Array Oper)(C:World->Prop)(J:(Nat->Bool)->(Nat->Gh)->World->Prop)(m:(Nat->Gh)->Act)(h:Array Bool)(a:Act)(x:World):Prop:=C x/\(∀(i:Nat)(o:Oper),ops[i]?=some o->h.getD i true=true->∀e∈o.after,Region.binds .any e=true->h.getD e.on true=true)/\∃g,Zel ops h a (m g)/\J (fun j=>h.getD j true) g x
theorem ZkC(h:Array Bool)(i:Nat):(fun j=>(h.setIfInBounds i true).getD j true)=Zby (fun j=>h.getD j true) i:=funext fun j=>by
 unfold Zby;by_cases m:i=j;·subst m;rw[Zf4,BEq.rfl,ZwY]
 ·rw[getD_set_ne true m];have:(j==i)=false:=by simpa using fun e=>m e.symm
  rw[this,ZwQ]
end
end Go.Proofs
namespace Go.Proofs
open Go.RowKit
structure OnlyB (b:Nat)(x x':World):Prop where
 below:∀n,n<=b->Below n x x'
 other:∀k,k≠b->x'.heap[k]?=x.heap[k]?
theorem OnlyB.refl(b:Nat)(x:World):OnlyB b x x:=⟨fun n _=>ZwJ n x,fun _ _=>rfl⟩
theorem OnlyB.set{b:Nat} {x x':World} (h:OnlyB b x x')(o:Nat)(u:Value):OnlyB b x (x'.setCell ⟨b,o,none⟩ u):=⟨fun n m=>(h.below n m).setCell m u,fun k j=>(ZwI x' ⟨b,o,none⟩ u k j).trans (h.other k j)⟩
theorem OnlyB.keep{b:Nat} {x x':World} (h:OnlyB b x x') {k:Nat} {o:Obj} (j:k≠b)(hx:x.heap[k]?=some o):x'.heap[k]?=some o:=(h.other k j).trans hx
theorem ZK{L:Nat->Bool} {j k:Nat} (h:k≠j):Zby L j k=L k:=by
 unfold Zby;have:(k==j)=false:=by simpa using h
 rw[this,ZwQ]
theorem Za6{L:Nat->Bool} {j:Nat}:Zby L j j=true:=by simp[Zby]
theorem upd_ne{g:Nat->Gh} {j k:Nat} {h:Gh} (m:k≠j):upd g j h k=g k:=by unfold upd;rw[if_neg m]
theorem Zag{g:Nat->Gh} {j:Nat} {h:Gh}:upd g j h j=h:=by unfold upd;rw[if_pos rfl]
section
variable {P:Program}
end
theorem Zf5{P:Program} {f:Operand->Value} {o:Oper} {t ty:TypeId} {p q:Operand} {b:Nat} {v0 v1 u0 u1:Value} {x:World} (u:o.op=.store t p q)(h0:v0.oneCell'=true)(m:v1.oneCell'=true)(h:Sem.run P (sizeOf t) x=.ok 2 x)(hp:f p=.pointer (some ⟨b,0,none⟩))(hq:f q=.agg #[v0,v1])(hz:x.heap[b]?=some (.cells #[u0,u1] ty (0,0))):(execOp f o).run P x=.ok .skip ((x.setCell ⟨b,0,none⟩ v0).setCell ⟨b,1,none⟩ v1):=by have j:=bk2 hz;unfold execOp;rw[u];simp[go_sem,hp,hq,j,h,run_store _ _ _ v0 _ h0,run_store _ _ _ v1 _ m]
theorem Zc9{P:Program} {f:Operand->Value} {o:Oper} {t ty:TypeId} {p q:Operand} {b:Nat} {v0 v1 v2 u0 u1 u2:Value} {x:World} (y:o.op=.store t p q)(h0:v0.oneCell'=true)(m:v1.oneCell'=true)(u:v2.oneCell'=true)(h:Sem.run P (sizeOf t) x=.ok 3 x)(hp:f p=.pointer (some ⟨b,0,none⟩))(hq:f q=.agg #[v0,v1,v2])(hz:x.heap[b]?=some (.cells #[u0,u1,u2] ty (0,0))):(execOp f o).run P x=.ok .skip (((x.setCell ⟨b,0,none⟩ v0).setCell ⟨b,1,none⟩ v1).setCell ⟨b,2,none⟩ v2):=by have j:=bk3 hz;unfold execOp;rw[y];simp[go_sem,hp,hq,j,h,run_store _ _ _ v0 _ h0,run_store _ _ _ v1 _ m,run_store _ _ _ v2 _ u]
end Go.Proofs
namespace Go.Proofs
open Go.RowKit
section
variable {P:Program}
end
theorem ZoQ{w x x':World} {row:Option Nat} (h:Below w.heap.size w x)(j:x.grownBy x' row)(m:∀b,row=some b->w.heap.size<=b):Below w.heap.size w x':=h.grown j h.size m
section
variable {P:Program}
theorem ZoR(v:Value) (hv:v.oneCell'=true) (x:World) (b o:Nat) (u:Value) (h:x.cell? ⟨b,o,none⟩=some u) (hf:x.frozen? ⟨b,o,none⟩=false):(store ⟨b,o,none⟩ v).run P x=.ok () (x.setCell ⟨b,o,none⟩ v):=by cases v<;>first|(simp[Value.oneCell']at hv;done)|simp[store,Sem.run,h,hf]
theorem Zh2(b:Nat)(T:TypeId):∀(vs:List Value)(i:Nat)(cs:List Value)(x:World),x.heap[b]?=some (.cells cs.toArray T (0,0))->i+vs.length<=cs.length->(∀u∈vs,u.oneCell'=true)->∃x',(storeCells ⟨b,0,none⟩ vs i).run P x=.ok () x'/\x'.heap[b]?=some (.cells (cs.take i++vs++cs.drop (i+vs.length)).toArray T (0,0))/\x.grownBy x' (some b)/\x'.heap.size=x.heap.size
 |[],i,cs,x,hx,_,_=>⟨x,by simp[storeCells,Sem.run,pure],by simpa using hx,⟨rfl,rfl,rfl,Zza _,fun _ _ _=>rfl⟩,rfl⟩|v::vs,i,cs,x,hx,hl,h1=>by
  simp only[Zyd]at hl;have q:x.cell? ⟨b,i,none⟩=some (cs[i]'(by omega)):=by unfold World.cell?;simp only[hx];simp[ZxX (show i<cs.length by omega)]
  have y:x.frozen? ⟨b,i,none⟩=false:=by unfold World.frozen?;simp only[hx];simp
  have z:=ZoR (P:=P) v (h1 v (by simp)) x b i _ q y;have j:(x.setCell ⟨b,i,none⟩ v).heap[b]?=some (.cells (cs.set i v).toArray T (0,0)):=ZG hx v (by simp);obtain⟨x',E,F,G,H⟩:=Zh2 b T vs (i+1) (cs.set i v) _ j (by simp;omega) fun u D=>h1 u (by simp[D]);refine⟨x',?_,?_,?_,by rw[H];simp⟩
  ·unfold storeCells;have e:(⟨b,0,none⟩:Addr).add i=⟨b,i,none⟩:=by unfold Addr.add;split<;>simp_all
   rw[e];simp only[Sem.run_bind,z,Result.andThen_ok];exact E
  ·rw[F];congr 2;apply congrArg;have m:(cs.set i v).take (i+1)=cs.take i++[v]:=by rw[ZyV,List.getElem?_set_self (by omega),List.take_set];rw[List.set_eq_of_length_le (by simp[Nat.min_le_left])];rfl
   have p:(cs.set i v).drop (i+1+vs.length)=cs.drop (i+1+vs.length):=by rw[List.drop_set_of_lt (by omega)]
   rw[m,p];simp only[Zyd,Zxp,Zxt,ZyJ];congr 4;omega
  ·exact World.grownBy.trans (b:=x.setCell ⟨b,i,none⟩ v) ⟨rfl,rfl,rfl,by simp,fun k I h=>ZwI x ⟨b,i,none⟩ v k fun e=>h (by rw[e])⟩ G
theorem Zh3(b:Nat)(T:TypeId)(cs:List Value)(x:World)(hx:x.heap[b]?=some (.cells cs.toArray T (0,0))):∀(n i:Nat)(acc:Array Value),i+n<=cs.length->(loadCellsFrom ⟨b,0,none⟩ i n acc).run P x=.ok (acc++((cs.drop i).take n).toArray) x
 |0,i,acc,_=>by simp[loadCellsFrom,Sem.run,pure]|n+1,i,acc,h=>by
  have j:x.cell? ⟨b,i,none⟩=some (cs[i]'(by omega)):=by unfold World.cell?;simp only[hx];simp[ZxX (show i<cs.length by omega)]
  unfold loadCellsFrom;have e:(⟨b,0,none⟩:Addr).add i=⟨b,i,none⟩:=by unfold Addr.add;split<;>simp_all
  rw[e];have m:(load ⟨b,i,none⟩).run P x=.ok (cs[i]'(by omega)) x:=by simp[load,Sem.run,j]
  simp only[Sem.run_bind,m,Result.andThen_ok];rw[Zh3 b T cs x hx n (i+1) _ (by omega)];rw[ZxA (show i<cs.length by omega),ZyY];simp
variable {ops:Array Oper} {rest:List Oper} {o:Oper} {a:Act} {Q:Exit->Act->World->Prop}
theorem ZaT{w:World} (j:o.guard=none)(p q:Operand)(t:TypeId)(F:o.op=.store t p q)(b:Nat)(vs cs:List Value)(T:TypeId)(hp:a.eval p=.pointer (some ⟨b,0,none⟩))(hq:a.eval q=.agg vs.toArray)(m:(sizeOf t).run P w=.ok vs.length w)(hb:w.heap[b]?=some (.cells cs.toArray T (0,0)))(E:cs.length=vs.length)(z:∀u∈vs,u.oneCell'=true)(h:∀w',w'.heap[b]?=some (.cells vs.toArray T (0,0))->w.grownBy w' (some b)->w'.heap.size=w.heap.size->wpList P ops Q rest (a.put o.dst undef) w'):wpList P ops Q (o::rest) a w:=by
 obtain⟨x',G,H,I,J⟩:=Zh2 (P:=P) b T vs 0 cs w hb (by omega) z;refine wpList_plain j fun K D=>?_;unfold Oper.wp execOp;have y:(storeVar t ⟨b,0,none⟩ (.agg vs.toArray)).run P w=.ok () x':=by unfold storeVar;simp only[Sem.run_bind,m,Result.andThen_ok,Value.cells,ZyT,ne_eq,not_true_eq_false,if_false];exact G
 simp only[F,Instr.storeAt,Instr.sureAddr,hp,hq,Sem.run_bind,Sem.run_pure,Result.andThen_ok,y];refine D _ _ (h x' ?_ I J);rw[H];congr 2;apply congrArg;simp[E]
theorem Zac{w:World} {t:TypeId} {b:Nat} {cs:List Value} {T:TypeId} (h:(isAgg t).run P w=.ok true w)(j:(sizeOf t).run P w=.ok cs.length w)(hb:w.heap[b]?=some (.cells cs.toArray T (0,0))):(loadVar t ⟨b,0,none⟩).run P w=.ok (.agg cs.toArray) w:=by unfold loadVar loadCells;simp only[Sem.run_bind,h,j,Result.andThen_ok,if_true];rw[Zh3 b T cs w hb cs.length 0 #[] (by omega)];simp[Sem.run,pure]
theorem Zen{w:World} (m:o.guard=none)(p:Operand)(t:TypeId)(z:o.op=.load t p)(b:Nat)(cs:List Value)(T:TypeId)(hp:a.eval p=.pointer (some ⟨b,0,none⟩))(j:(isAgg t).run P w=.ok true w)(q:(sizeOf t).run P w=.ok cs.length w)(hb:w.heap[b]?=some (.cells cs.toArray T (0,0)))(h:wpList P ops Q rest (a.put o.dst (.agg cs.toArray)) w):wpList P ops Q (o::rest) a w:=by
 refine wpList_plain m fun K y=>?_;unfold Oper.wp execOp;have u:(loadVar t ⟨b,0,none⟩).run P w=.ok (.agg cs.toArray) w:=by unfold loadVar loadCells;simp only[Sem.run_bind,j,q,Result.andThen_ok,if_true];rw[Zh3 b T cs w hb cs.length 0 #[] (by omega)];simp[Sem.run,pure]
 simp only[z,Instr.loadAt,Instr.sureAddr,hp,Sem.run_bind,Sem.run_pure,Result.andThen_ok,u];exact y _ _ h
theorem Zh4(ad:Addr)(w:World):(asAddr (.pointer (some ad))).run P w=.ok ad w:=rfl
theorem ZdM{fn:Func} {p:Tmp} {ty:TypeId} (h:fn.results=#[.cell p ty]) {j:Array Value} {w:World} {ad:Addr} {v:Value} (q:j.getD p undef=.pointer (some ad))(m:(loadVar ty ad).run P w=.ok v w):(results fn j).run P w=.ok v w:=by unfold results;rw[h];simp only[List.mapM_toArray,Zyk,Zyl,q,Sem.run_bind,Sem.run_pure,Zh4,Result.andThen_ok,m,bind_assoc,pure_bind,map_eq_pure_bind];rfl
theorem ZaB{fn:Func} {p u:Tmp} {ty:TypeId} (h:fn.results=#[.cell p ty,.tmp u]) {j:Array Value} {w:World} {ad:Addr} {v:Value} (q:j.getD p undef=.pointer (some ad))(m:(loadVar ty ad).run P w=.ok v w):(results fn j).run P w=.ok (.tuple #[v,j.getD u undef]) w:=by unfold results;rw[h];simp only[List.mapM_toArray,Zyk,Zyl,q,Sem.run_bind,Sem.run_pure,Zh4,Result.andThen_ok,m,bind_assoc,pure_bind,map_eq_pure_bind];rfl
end
end Go.Proofs
namespace Go.Proofs
open Tryz
open Go.RowKit
def Za7(n m:Int):Bool:=Z2 n (-m) m
theorem Zh5(n m:Int)(w:World)(hm:m.natAbs<=9000000000000000000):Calls prog 87 #[.int .i64 n,.int .i64 m] w fun e w'=>e=.returned (.bool (Za7 n m))/\w=w':=by have h:IntKind.i64.wrap (-m)=-m:=Zxg _ (by omega);go_enter func87,ntmps87;go_wp2_with (go_at_call 69;refine(Zb0 _ _ _ _).mono ?_;rintro e w' ⟨rfl,rfl⟩);go_ret;exact⟨rfl,rfl⟩
theorem ZkD(n b:Int)(w:World)(hb:0<b)(u:n.natAbs<=9000000000000000000):Calls prog 63 #[.int .i64 n,.int .i64 b] w fun e w'=>e=.returned (.int .i64 (n / b))/\w=w':=by
 have j:¬b=0:=by omega
 have m:(b==0)=false:=by simpa using j
 have y:(n.tdiv b).natAbs<=n.natAbs:=by rw[Int.natAbs_tdiv];exact Nat.div_le_self _ _
 have p:IntKind.i64.wrap (n.tdiv b)=n.tdiv b:=Zxg _ (by omega);by_cases h:n.tmod b<0;·have q:IntKind.i64.wrap (n.tdiv b-1)=n.tdiv b-1:=Zxg _ (by omega);go_enter func63,ntmps63;go_wp2;go_ret;exact⟨Zbm (Zn4 n b hb h),rfl⟩
 ·go_enter func63,ntmps63;go_wp2;go_ret;exact⟨Zbm (Zn5 n b hb (by omega)),rfl⟩
def ZaC(n b:Int):Int:=(gcdL 0 [n,b]:Int)
theorem ZoS(n b:Int)(hb:0<b):0<ZaC n b/\ZaC n b∣n/\ZaC n b∣b:=by have j:=Zeg (l:=[n,b]) (g:=0) b (by simp) (by omega);have h:=(Zc5 [n,b] 0).2;exact⟨by unfold ZaC;omega,h n (by simp),h b (by simp)⟩
theorem ZkE(n b:Int)(w:World)(hb:0<b)(Y:n.natAbs<=1000000000000000000)(u:b.natAbs<=1000000000000000000):Calls prog 51 #[.int .i64 n,.int .i64 b] w fun e w'=>e=.returned (.agg #[.int .i64 (n / ZaC n b),.int .i64 (b / ZaC n b)])/\Below w.heap.size w w':=by
 obtain⟨q,L,N⟩:=ZoS n b hb;have G:IntKind.i64.wrap (n.tdiv (ZaC n b))=n / ZaC n b:=ZdK q L Y (by decide);have H:IntKind.i64.wrap (b.tdiv (ZaC n b))=b / ZaC n b:=ZdK q N u (by decide);have R:=Zxi (by have O:=(ZJ.new (T:=3) (w.alloc (.cells #[.int .i64 0,.int .i64 0] 30 (0,0))) [n,b]).at';simp only[World.size_alloc]at O;exact ZhL (some ⟨w.heap.size+1,0,none⟩) [n,b] 2 ((w.alloc (.cells #[.int .i64 0,.int .i64 0] 30 (0,0))).alloc (.cells #[.int .i64 n,.int .i64 b] 3 (0,0))) O (by simp) (by intro x S;simp only[Zyx,ZyN,or_false]at S;rcases S with rfl|rfl<;>omega):Calls prog 92 #[.slice (some ⟨w.heap.size+1,0,none⟩) 2 2] ((w.alloc (.cells #[.int .i64 0,.int .i64 0] 30 (0,0))).alloc (.cells #[.int .i64 n,.int .i64 b] 3 (0,0))) fun e w'=>e=.returned (.int .i64 (gcdL 0 [n,b]:Nat))/\Below ((w.alloc (.cells #[.int .i64 0,.int .i64 0] 30 (0,0))).alloc (.cells #[.int .i64 n,.int .i64 b] 3 (0,0))).heap.size ((w.alloc (.cells #[.int .i64 0,.int .i64 0] 30 (0,0))).alloc (.cells #[.int .i64 n,.int .i64 b] 3 (0,0))) w');obtain⟨g,z⟩:∃g,ZaC n b=g:=⟨_,rfl⟩;have m:((gcdL 0 [n,b]:Nat):Int)=g:=z;rw[m]at R;rw[z]at q G H |-;have E:¬g=0:=by omega
 have X:(g==0)=false:=by simpa using E
 clear z m L N;go_enter func51,ntmps51;go_wp2_with (go_at_call 92;refine R.out.mono ?_;rintro e w2 ⟨rfl,h⟩);have U:=Zw h (by(repeat (first|assumption|(refine ZA _ _ ?_;(simp;done))|refine ZD ?_|refine Zz ?_ _|refine ZB ?_ (by simp<;>omega) _)):((w.alloc (.cells #[.int .i64 0,.int .i64 0] 30 (0,0))).alloc (.cells #[.int .i64 n,.int .i64 b] 3 (0,0))).heap[w.heap.size]?=some (.cells #[.int .i64 0,.int .i64 0] 30 (0,0)));have V:Below w.heap.size w w2:=via (by go_grown) h;clear h;refine ZaR w 7 (by kernel_rfl) (by kernel_rfl) (by go_grown) ?_;intro D y;simp only[ZyY,Zy0,ZxB,ZxC];repeat (go_big_quiet_step (fail))
 refine wpQuiet_nil ?_;intro wb j I F;clear D y;have J:=Zw j U;have Z:=bk2 J;go_wp2;refine bodyPost_ret (v:=.agg #[.int .i64 (n / g),.int .i64 (b / g)]) ?_ rfl ⟨rfl,?_⟩;·exact ZdM (p:=4) (ad:=⟨w.heap.size,0,none⟩) rfl (by rfl) (Zac (T:=30) (cs:=[.int .i64 (n / g),.int .i64 (b / g)]) (by kernel_rfl) (by kernel_rfl) (ZG (ZG J _ rfl) _ rfl))
 ·go_grown
theorem ZoT(k ag n d v:Int)(w:World)(D:n.natAbs<=1000000000000000)(p:d.natAbs<=1000000000000000)(hv:v.natAbs<=1000):Calls prog 72 #[.agg #[.int .i64 k,.int .i64 ag],.agg #[.int .i64 n,.int .i64 d],.int .i64 v] w fun e w'=>e=.returned (.bool (if k=1 then decide (n*1000<v*d)else decide (n<v*d)))/\Below w.heap.size w w':=by
 have m:=Zaj hv p;obtain⟨y,h⟩:∃y,v*d=y:=⟨_,rfl⟩;rw[h]at m;have u:IntKind.i64.wrap (v*d)=y:=by rw[h];exact Zxg _ (by omega)
 have z:IntKind.i64.wrap (n*1000)=n*1000:=Zxg _ (by omega);rw[h];clear h m;by_cases j:k=1;·subst j;go_enter func72,ntmps72;go_wp2;go_ret;exact⟨Zct (by simp),by go_grown⟩
 ·have q:(k==1)=false:=by simpa using j
  go_enter func72,ntmps72;go_wp2;go_ret;exact⟨Zct (by simp[j]),by go_grown⟩
def ZcM(k ag:Int):Int:=Z1 [unl (Z2 k 0 1) 15,unl (Z2 ag 0 400) 2]
theorem Zh6(k ag:Int)(w:World):Calls prog 68 #[.agg #[.int .i64 k,.int .i64 ag]] w fun e w'=>e=.returned (.int .i64 (ZcM k ag))/\Below w.heap.size w w':=by
 unfold ZcM;obtain⟨J,F⟩:∃b,Z2 k 0 1=b:=⟨_,rfl⟩;obtain⟨L,G⟩:∃b,Z2 ag 0 400=b:=⟨_,rfl⟩;have j:=Zxi fun W=>Zb0 k 0 1 W;have m:=Zxi fun W=>Zb0 ag 0 400 W;rw[F]at j |-;rw[G]at m |-;clear F G;go_enter func68,ntmps68;go_wp2;refine Zbf ?_;intro H h;have p:Below w.heap.size w H:=by rw[h];go_grown
 have I:H.heap[w.heap.size]?=some (.cells #[.int .i64 k,.int .i64 ag] 27 (0,0)):=by rw[h];(repeat (first|assumption|(refine ZA _ _ ?_;(simp;done))|refine ZD ?_|refine Zz ?_ _|refine ZB ?_ (by simp<;>omega) _))
 have D:=bk2 I;clear h;refine ZaR w 8 (by kernel_rfl) (by kernel_rfl) p ?_;intro y u;simp only[ZyY,Zy0,ZxB,ZxC];repeat (go_big_quiet_step (first
  |(go_at_call 69;first|with_reducible exact Zd (j.out _)|with_reducible exact Zd (m.out _))|(go_at_call 67;with_reducible exact Zd (Zbn _ _ _))))
 refine wpQuiet_nil ?_;intro N q E z;clear y u;go_wp2_with (go_at_call 65;refine(ZdD _ _ _).mono ?_;rintro e w' ⟨rfl,rfl⟩);go_ret;exact⟨rfl,by go_grown⟩
theorem ZoU(A:Option Addr)(l:List Pa)(c:Nat)(B:Nat)(f:Pa->Bool)(w:World)(hl:l.length<=1000000)(G:At 5 Pa.cs w A l)(X:∀y∈l,∀W,Below w.heap.size w W->Calls prog 119 (#[.agg #[.string y.nm,.int .i64 y.a0,.int .i64 y.a1,.int .i64 y.c0,.int .i64 y.c1]]++#[.pointer (some ⟨B,0,none⟩)]) W fun e w'=>e=.returned (.bool (f y))/\Below W.heap.size W w'):Calls prog 132 #[.slice A l.length c,.func (.func 119) #[] #[.pointer (some ⟨B,0,none⟩)]] w fun e w'=>(∃r:Int,e=.returned (.int .i64 r)/\decide (0<=r)=l.any f)/\Below w.heap.size w w':=by
 have u:=Zxi X;have H:=Zxi G;obtain⟨n,V⟩:∃n,l.length=n:=⟨_,rfl⟩;have J:=Zxi V;rw[V]at hl |-;clear G X V;go_enter func132,ntmps132;go_wp2_with fail;go_loopw [8] (fun i wr=>∃k:Nat,k<=n/\i=.int .i64 k/\Hid (((l.take k).any f)=false)/\Below w.heap.size w wr)(fun i _=>n-(intOf i).toNat);case atStart=>exact⟨0,Zzx _,rfl,rfl,ZwJ _ _⟩
 case round=>
  obtain⟨k,hk,rfl,p,j⟩:=hrel;by_cases U:k<n
  ·obtain⟨y,N⟩:∃y,l[k]?=some y:=⟨_,ZxX (by rw[J.out];exact U)⟩;obtain⟨b,o,rfl,Y,E⟩:=H.out.below j k y N;have z:=Zxi fun W I=>u.out y (ZyD N) W I;obtain⟨q,O⟩:∃q,f y=q:=⟨_,rfl⟩;have D:Hid (((l.take (k+1)).any f)=q):=by obtain⟨R,Z⟩:=Zx0.1 N;unfold Hid;rw[ZyZ R,Zxm,Z,p.out];simpa using O
   have F:Hid (q=true->(l.any f)=true):=fun h=>by rw[Zxo];exact⟨y,ZyD N,by rw[O,h]⟩
   rw[O]at z;(have y0:=E 0 _ rfl;have y1:=E 1 _ rfl;have y2:=E 2 _ rfl;have y3:=E 3 _ rfl;have y4:=E 4 _ rfl;simp only[Zy6]at y0);have aA:(k:Int)<(n:Int):=by omega
   clear E N O p u;cases q
   ·go_wp2_with (go_at_call 119;refine(z.out _ j).mono ?_;rintro e w1 ⟨rfl,I⟩;have j:=via j I);go_roundw;case rel=>exact⟨k+1,by omega,by go_num,D,j⟩
    case measure=>simp[intOf];omega
   ·have ht:=F.out rfl;go_wp2_with (go_at_call 119;refine(z.out _ j).mono ?_;rintro e w1 ⟨rfl,I⟩;have j:=via j I);go_ret;exact⟨⟨k,rfl,by rw[ht];simp⟩,j⟩
  ·have S:k=n:=by omega
   subst S;have m:=p.out;rw[ZyX (by rw[J.out];exact Zza _)]at m;have L:=Zxi m;clear p m u;go_wp2;go_ret;exact⟨⟨-1,rfl,by rw[L.out];decide⟩,j⟩
theorem ZoV(A:Option Addr)(l:List Pa)(c:Nat)(B:Nat)(f:Pa->Bool)(w:World)(u:l.length<=1000000)(h:At 5 Pa.cs w A l)(j:∀y∈l,∀W,Below w.heap.size w W->Calls prog 119 (#[.agg #[.string y.nm,.int .i64 y.a0,.int .i64 y.a1,.int .i64 y.c0,.int .i64 y.c1]]++#[.pointer (some ⟨B,0,none⟩)]) W fun e w'=>e=.returned (.bool (f y))/\Below W.heap.size W w'):Calls prog 118 #[.slice A l.length c,.func (.func 119) #[] #[.pointer (some ⟨B,0,none⟩)]] w fun e w'=>e=.returned (.bool (l.any f))/\Below w.heap.size w w':=by have m:=ZoU A l c B f w u h j;generalize (l.any f)=q at*;generalize l.length=n at*;clear h j;go_enter func118,ntmps118;go_wp2_with (go_at_call 132;refine m.mono ?_;rintro e D ⟨⟨r,rfl,z⟩,p⟩);go_ret;exact⟨rfl,p⟩
theorem ZoW(A:Option Addr)(l:List En)(c:Nat)(B:Nat)(f:En->Bool)(w:World)(hl:l.length<=1000000)(F:At 3 En.cs w A l)(X:∀y∈l,∀W,Below w.heap.size w W->Calls prog 121 (#[.agg #[.string y.nm,.slice y.A y.co.length y.c,.int .i64 y.mo]]++#[.pointer (some ⟨B,0,none⟩)]) W fun e w'=>e=.returned (.bool (f y))/\Below W.heap.size W w'):Calls prog 133 #[.slice A l.length c,.func (.func 121) #[] #[.pointer (some ⟨B,0,none⟩)]] w fun e w'=>(∃r:Int,e=.returned (.int .i64 r)/\decide (0<=r)=l.any f)/\Below w.heap.size w w':=by
 have u:=Zxi X;have G:=Zxi F;obtain⟨n,V⟩:∃n,l.length=n:=⟨_,rfl⟩;have I:=Zxi V;rw[V]at hl |-;clear F X V;go_enter func133,ntmps133;go_wp2_with fail;go_loopw [8] (fun i wr=>∃k:Nat,k<=n/\i=.int .i64 k/\Hid (((l.take k).any f)=false)/\Below w.heap.size w wr)(fun i _=>n-(intOf i).toNat);case atStart=>exact⟨0,Zzx _,rfl,rfl,ZwJ _ _⟩
 case round=>
  obtain⟨k,hk,rfl,p,j⟩:=hrel;by_cases U:k<n
  ·obtain⟨y,L⟩:∃y,l[k]?=some y:=⟨_,ZxX (by rw[I.out];exact U)⟩;obtain⟨b,o,rfl,Y,N⟩:=G.out.below j k y L;have z:=Zxi fun W H=>u.out y (ZyD L) W H;obtain⟨q,O⟩:∃q,f y=q:=⟨_,rfl⟩;have D:Hid (((l.take (k+1)).any f)=q):=by obtain⟨R,Z⟩:=Zx0.1 L;unfold Hid;rw[ZyZ R,Zxm,Z,p.out];simpa using O
   have E:Hid (q=true->(l.any f)=true):=fun h=>by rw[Zxo];exact⟨y,ZyD L,by rw[O,h]⟩
   rw[O]at z;(have y0:=N 0 _ rfl;have y1:=N 1 _ rfl;have y2:=N 2 _ rfl;simp only[Zy6]at y0);have aA:(k:Int)<(n:Int):=by omega
   clear N L O p u;cases q
   ·go_wp2_with (go_at_call 121;refine(z.out _ j).mono ?_;rintro e w1 ⟨rfl,H⟩;have j:=via j H);go_roundw;case rel=>exact⟨k+1,by omega,by go_num,D,j⟩
    case measure=>simp[intOf];omega
   ·have ht:=E.out rfl;go_wp2_with (go_at_call 121;refine(z.out _ j).mono ?_;rintro e w1 ⟨rfl,H⟩;have j:=via j H);go_ret;exact⟨⟨k,rfl,by rw[ht];simp⟩,j⟩
  ·have S:k=n:=by omega
   subst S;have m:=p.out;rw[ZyX (by rw[I.out];exact Zza _)]at m;have J:=Zxi m;clear p m u;go_wp2;go_ret;exact⟨⟨-1,rfl,by rw[J.out];decide⟩,j⟩
theorem ZoX(A:Option Addr)(l:List En)(c:Nat)(B:Nat)(f:En->Bool)(w:World)(u:l.length<=1000000)(h:At 3 En.cs w A l)(j:∀y∈l,∀W,Below w.heap.size w W->Calls prog 121 (#[.agg #[.string y.nm,.slice y.A y.co.length y.c,.int .i64 y.mo]]++#[.pointer (some ⟨B,0,none⟩)]) W fun e w'=>e=.returned (.bool (f y))/\Below W.heap.size W w'):Calls prog 120 #[.slice A l.length c,.func (.func 121) #[] #[.pointer (some ⟨B,0,none⟩)]] w fun e w'=>e=.returned (.bool (l.any f))/\Below w.heap.size w w':=by have m:=ZoW A l c B f w u h j;generalize (l.any f)=q at*;generalize l.length=n at*;clear h j;go_enter func120,ntmps120;go_wp2_with (go_at_call 133;refine m.mono ?_;rintro e D ⟨⟨r,rfl,z⟩,p⟩);go_ret;exact⟨rfl,p⟩
theorem ZoY(A:Option Addr)(l:List Int)(c:Nat)  (f:Int->Bool)(w:World)(hl:l.length<=1000000)(F:At 1 Zc w A l)(V:∀y∈l,∀W,Below w.heap.size w W->Calls prog 122 (#[.int .i64 y]++#[]) W fun e w'=>e=.returned (.bool (f y))/\Below W.heap.size W w'):Calls prog 123 #[.slice A l.length c,.func (.func 122) #[] #[]] w fun e w'=>(∃r:Int,e=.returned (.int .i64 r)/\decide (0<=r)=l.any f)/\Below w.heap.size w w':=by
 have u:=Zxi V;have G:=Zxi F;obtain⟨n,U⟩:∃n,l.length=n:=⟨_,rfl⟩;have I:=Zxi U;rw[U]at hl |-;clear F V U;go_enter func123,ntmps123;go_wp2_with fail;go_loopw [8] (fun i wr=>∃k:Nat,k<=n/\i=.int .i64 k/\Hid (((l.take k).any f)=false)/\Below w.heap.size w wr)(fun i _=>n-(intOf i).toNat);case atStart=>exact⟨0,Zzx _,rfl,rfl,ZwJ _ _⟩
 case round=>
  obtain⟨k,hk,rfl,p,j⟩:=hrel;by_cases S:k<n
  ·obtain⟨y,L⟩:∃y,l[k]?=some y:=⟨_,ZxX (by rw[I.out];exact S)⟩;obtain⟨b,o,rfl,Y,X⟩:=G.out.below j k y L;have z:=Zxi fun W H=>u.out y (ZyD L) W H;obtain⟨q,N⟩:∃q,f y=q:=⟨_,rfl⟩;have D:Hid (((l.take (k+1)).any f)=q):=by obtain⟨O,Z⟩:=Zx0.1 L;unfold Hid;rw[ZyZ O,Zxm,Z,p.out];simpa using N
   have E:Hid (q=true->(l.any f)=true):=fun h=>by rw[Zxo];exact⟨y,ZyD L,by rw[N,h]⟩
   rw[N]at z;(have y0:=X 0 _ rfl;simp only[Zy6,Zzn]at y0);have aA:(k:Int)<(n:Int):=by omega
   clear X L N p u;cases q
   ·go_wp2_with (go_at_call 122;refine(z.out _ j).mono ?_;rintro e w1 ⟨rfl,H⟩;have j:=via j H);go_roundw;case rel=>exact⟨k+1,by omega,by go_num,D,j⟩
    case measure=>simp[intOf];omega
   ·have ht:=E.out rfl;go_wp2_with (go_at_call 122;refine(z.out _ j).mono ?_;rintro e w1 ⟨rfl,H⟩;have j:=via j H);go_ret;exact⟨⟨k,rfl,by rw[ht];simp⟩,j⟩
  ·have R:k=n:=by omega
   subst R;have m:=p.out;rw[ZyX (by rw[I.out];exact Zza _)]at m;have J:=Zxi m;clear p m u;go_wp2;go_ret;exact⟨⟨-1,rfl,by rw[J.out];decide⟩,j⟩
theorem ZkF(A:Option Addr)(l:List Int)(c:Nat)  (f:Int->Bool)(w:World)(u:l.length<=1000000)(h:At 1 Zc w A l)(j:∀y∈l,∀W,Below w.heap.size w W->Calls prog 122 (#[.int .i64 y]++#[]) W fun e w'=>e=.returned (.bool (f y))/\Below W.heap.size W w'):Calls prog 98 #[.slice A l.length c,.func (.func 122) #[] #[]] w fun e w'=>e=.returned (.bool (l.any f))/\Below w.heap.size w w':=by have m:=ZoY A l c  f w u h j;generalize (l.any f)=q at*;generalize l.length=n at*;clear h j;go_enter func98,ntmps98;go_wp2_with (go_at_call 123;refine m.mono ?_;rintro e D ⟨⟨r,rfl,z⟩,p⟩);go_ret;exact⟨rfl,p⟩
theorem ZoZ(A:Option Addr)(l:List Int)(c:Nat)  (f:Int->Bool)(w:World)(hl:l.length<=1000000)(F:At 1 Zc w A l)(V:∀y∈l,∀W,Below w.heap.size w W->Calls prog 99 (#[.int .i64 y]++#[]) W fun e w'=>e=.returned (.bool (f y))/\Below W.heap.size W w'):Calls prog 123 #[.slice A l.length c,.func (.func 99) #[] #[]] w fun e w'=>(∃r:Int,e=.returned (.int .i64 r)/\decide (0<=r)=l.any f)/\Below w.heap.size w w':=by
 have u:=Zxi V;have G:=Zxi F;obtain⟨n,U⟩:∃n,l.length=n:=⟨_,rfl⟩;have I:=Zxi U;rw[U]at hl |-;clear F V U;go_enter func123,ntmps123;go_wp2_with fail;go_loopw [8] (fun i wr=>∃k:Nat,k<=n/\i=.int .i64 k/\Hid (((l.take k).any f)=false)/\Below w.heap.size w wr)(fun i _=>n-(intOf i).toNat);case atStart=>exact⟨0,Zzx _,rfl,rfl,ZwJ _ _⟩
 case round=>
  obtain⟨k,hk,rfl,p,j⟩:=hrel;by_cases S:k<n
  ·obtain⟨y,L⟩:∃y,l[k]?=some y:=⟨_,ZxX (by rw[I.out];exact S)⟩;obtain⟨b,o,rfl,Y,X⟩:=G.out.below j k y L;have z:=Zxi fun W H=>u.out y (ZyD L) W H;obtain⟨q,N⟩:∃q,f y=q:=⟨_,rfl⟩;have D:Hid (((l.take (k+1)).any f)=q):=by obtain⟨O,Z⟩:=Zx0.1 L;unfold Hid;rw[ZyZ O,Zxm,Z,p.out];simpa using N
   have E:Hid (q=true->(l.any f)=true):=fun h=>by rw[Zxo];exact⟨y,ZyD L,by rw[N,h]⟩
   rw[N]at z;(have y0:=X 0 _ rfl;simp only[Zy6,Zzn]at y0);have aA:(k:Int)<(n:Int):=by omega
   clear X L N p u;cases q
   ·go_wp2_with (go_at_call 99;refine(z.out _ j).mono ?_;rintro e w1 ⟨rfl,H⟩;have j:=via j H);go_roundw;case rel=>exact⟨k+1,by omega,by go_num,D,j⟩
    case measure=>simp[intOf];omega
   ·have ht:=E.out rfl;go_wp2_with (go_at_call 99;refine(z.out _ j).mono ?_;rintro e w1 ⟨rfl,H⟩;have j:=via j H);go_ret;exact⟨⟨k,rfl,by rw[ht];simp⟩,j⟩
  ·have R:k=n:=by omega
   subst R;have m:=p.out;rw[ZyX (by rw[I.out];exact Zza _)]at m;have J:=Zxi m;clear p m u;go_wp2;go_ret;exact⟨⟨-1,rfl,by rw[J.out];decide⟩,j⟩
theorem Zo0(A:Option Addr)(l:List Int)(c:Nat)  (f:Int->Bool)(w:World)(u:l.length<=1000000)(h:At 1 Zc w A l)(j:∀y∈l,∀W,Below w.heap.size w W->Calls prog 99 (#[.int .i64 y]++#[]) W fun e w'=>e=.returned (.bool (f y))/\Below W.heap.size W w'):Calls prog 98 #[.slice A l.length c,.func (.func 99) #[] #[]] w fun e w'=>e=.returned (.bool (l.any f))/\Below w.heap.size w w':=by have m:=ZoZ A l c  f w u h j;generalize (l.any f)=q at*;generalize l.length=n at*;clear h j;go_enter func98,ntmps98;go_wp2_with (go_at_call 123;refine m.mono ?_;rintro e D ⟨⟨r,rfl,z⟩,p⟩);go_ret;exact⟨rfl,p⟩
theorem ZkG(lo hi m:Int)(w:World):Calls prog 110 #[.agg #[.int .i64 lo,.int .i64 hi],.int .i64 m] w fun e w'=>e=.returned (.int .i64 (ZbI lo hi m))/\Below w.heap.size w w':=by unfold ZbI;obtain⟨R,I⟩:∃b,Z2 lo 0 m=b:=⟨_,rfl⟩;obtain⟨S,J⟩:∃b,Z2 hi 0 m=b:=⟨_,rfl⟩;obtain⟨U,q⟩:∃b,decide (lo<=hi)=b:=⟨_,rfl⟩;have j:=Zxi fun W=>Zb0 lo 0 m W;have p:=Zxi fun W=>Zb0 hi 0 m W;rw[I]at j |-;rw[J]at p |-;rw[q];have u:=Zxi q;clear I J q;cases R;all_goals
  go_enter func110,ntmps110;go_wp2;refine Zbf ?_;intro N h;have y:Below w.heap.size w N:=by rw[h];go_grown
  have O:N.heap[w.heap.size]?=some (.cells #[.int .i64 lo,.int .i64 hi] 94 (0,0)):=by rw[h];(repeat (first|assumption|(refine ZA _ _ ?_;(simp;done))|refine ZD ?_|refine Zz ?_ _|refine ZB ?_ (by simp<;>omega) _))
  have D:=bk2 O;clear h;have L:=u.out;refine ZaR w 17 (by kernel_rfl) (by kernel_rfl) y ?_;intro F E;simp only[ZyY,Zy0,ZxB,ZxC];repeat (go_big_quiet_step (first
   |(go_at_call 69;first|with_reducible exact Zd (j.out _)|with_reducible exact Zd (p.out _))|(go_at_call 67;with_reducible exact Zd (Zbn _ _ _))))
  refine wpQuiet_nil ?_;intro V z H G;clear F E;go_wp2_with (go_at_call 65;refine(ZdD _ _ _).mono ?_;rintro e w' ⟨rfl,rfl⟩);go_ret;exact⟨Zbm (by simp),by go_grown⟩
theorem Zo1(p q:Pa)(B:Nat)(w:World)(hB:w.heap[B]?=some (.cells #[.string p.nm,.int .i64 p.a0,.int .i64 p.a1,.int .i64 p.c0,.int .i64 p.c1] 101 (0,0))):Calls prog 119 (#[.agg #[.string q.nm,.int .i64 q.a0,.int .i64 q.a1,.int .i64 q.c0,.int .i64 q.c1]]++#[.pointer (some ⟨B,0,none⟩)]) w fun e w'=>e=.returned (.bool (eqS q.nm p.nm))/\Below w.heap.size w w':=by
 have h:w.cell? ⟨B,0,none⟩=some (.string p.nm):=by unfold World.cell?;simp[hB]
 have j:=ZI hB;clear hB;simp only[Zxr,Zxt,ZyJ];go_enter func119,ntmps119;go_wp2;go_ret;exact⟨Zct (by simp[eqS]),by go_grown⟩
theorem Zo2(p q:En)(B:Nat)(w:World)(hB:w.heap[B]?=some (.cells #[.string p.nm,.slice p.A p.co.length p.c,.int .i64 p.mo] 71 (0,0))):Calls prog 121 (#[.agg #[.string q.nm,.slice q.A q.co.length q.c,.int .i64 q.mo]]++#[.pointer (some ⟨B,0,none⟩)]) w fun e w'=>e=.returned (.bool (eqS q.nm p.nm))/\Below w.heap.size w w':=by have h:=(bk3 hB).1;have j:=ZI hB;clear hB;simp only[Zxr,Zxt,ZyJ];go_enter func121,ntmps121;go_wp2;go_ret;exact⟨Zct (by simp[eqS]),by go_grown⟩
theorem ZkH(n:Int)(w:World):Calls prog 122 (#[.int .i64 n]++#[]) w fun e w'=>e=.returned (.bool (!Za7 n 20))/\Below w.heap.size w w':=by simp only[Zxr,Zxt,ZyJ];go_enter func122,ntmps122;go_wp2_with (go_at_call 87;refine(Zh5 _ _ _ (by decide)).mono ?_;rintro e w' ⟨rfl,rfl⟩);go_ret;exact⟨rfl,ZwJ _ _⟩
variable {w:World} {ps:List Pa} {i:Nat} {es:List En}
theorem At.take'{α:Type} {sz:Nat} {cs:α->List Value} {A:Option Addr} {l:List α} (h:At sz cs w A l)(n:Nat):At sz cs w A (l.take n):=by
 intro k x j;rw[Zx7]at j;split at j;·exact h k x j
 ·cases j
def Zbg:List Int->Nat->Option (Nat×Int)|[],_=>none|e::l,k=>if e=0 then Zbg l (k+1)else some (k,e)
theorem ZcN:∀(l:List Int)(k:Nat),(∀i,i<l.length->l.getD i 0=0)->Zbg l k=none|[],_,_=>rfl|e::l,k,h=>by unfold Zbg;rw[if_pos (show e=0 by simpa using h 0 (by simp))];exact ZcN l (k+1) fun i hi=>by have:=h (i+1) (by simpa using hi);simpa using this
theorem Zeo:∀(l:List Int)(k i:Nat),i<l.length->(∀j,j<i->l.getD j 0=0)->l.getD i 0≠0->Zbg l k=some (k+i,l.getD i 0)|[],_,_,h,_,_=>by simp at h|e::l,k,0,_,_,h=>by unfold Zbg;rw[if_neg (show ¬e=0 by simpa using h)];rfl|e::l,k,i+1,hi,h1,h2=>by unfold Zbg;rw[if_pos (show e=0 by simpa using h1 0 (by omega)),Zeo l (k+1) i (by simpa using hi) (fun j m=>by simpa using h1 (j+1) (by omega)) (by simpa using h2)];simp;omega
def Zav(ps:List Pa)(i:Nat)(p:Pa):Int:=Z1 [unl (Zam p.nm.data.toList) 4,unl (!((ps.take i).any fun q=>eqS q.nm p.nm)) 5,ZbI p.a0 p.a1 400,ZbI p.c0 p.c1 20]
def ZaZ(np:Nat)(es:List En)(i:Nat)(x:En):Int:=Z1 [unl (Zam x.nm.data.toList) 4,unl (!((es.take i).any fun y=>eqS y.nm x.nm)) 5,unl (decide (x.co.length=np)) 10,unl (!((x.mo::x.co).any fun n=>!Za7 n 20)) 2]
def ZaU(ps:List Pa):List Int:=ps.mapIdx fun i p=>Zav ps i p
def ZaF(np:Nat)(es:List En):List Int:=es.mapIdx fun i x=>ZaZ np es i x
theorem ZcO{p:Pa} (h:ps[i]?=some p):(ZaU ps).getD i 0=Zav ps i p:=by simp[ZaU,ZxS,h]
theorem ZdN{np:Nat} {x:En} (h:es[i]?=some x):(ZaF np es).getD i 0=ZaZ np es i x:=by simp[ZaF,ZxS,h]
def ZaG(n:Nat):Int:=Z1 [unl (decide (0<n)) 10,unl (decide (n<=5)) 8]
def ZY(ps:List Pa)(es:List En):Int×Int:=if ZaG ps.length≠0 then (0,ZaG ps.length) else match Zbg (ZaU ps) 0 with|some (k,e)=>((k:Int),e)|none=>if 8<es.length then (0,8)else match Zbg (ZaF ps.length es) 0 with|some (k,e)=>((k:Int),e)|none=>(0,0)
structure BookAt (w:World)(pA:Option Addr)(pc:Nat)(ps:List Pa)(eA:Option Addr)(ec:Nat)(es:List En):Prop where
 P:At 5 Pa.cs w pA ps
 E:Zat w eA es
 pc':ps.length<=pc
 ec':es.length<=ec
 nil:∀x∈es,x.A=none->x.c=0
theorem BookAt.below{w':World} {p j:Option Addr} {q m:Nat} (h:BookAt w p q ps j m es)(hb:Below w.heap.size w w'):BookAt w' p q ps j m es:=⟨h.P.below hb,h.E.below hb,h.pc',h.ec',h.nil⟩
structure FewB (ps:List Pa)(es:List En):Prop where
 p:ps.length<=1000
 e:es.length<=1000
 pn:∀p∈ps,p.nm.size<=1000
 en:∀x∈es,x.nm.size<=1000
 co:∀x∈es,x.co.length<=1000
theorem Zo3{P:Program} {ops:Array Oper} {Q:Exit->Act->World->Prop} {l:List Oper} {a:Act} (h:∀W,W=w->wpList P ops Q l a W):wpList P ops Q l a w:=h w rfl
theorem Zo4(pA eA:Option Addr)(pc ec z en:Nat)(ps:List Pa)(es:List En)(w:World)(hB:BookAt w pA pc ps eA ec es)(hF:FewB ps es)(aR:ps.length=z)(aO:es.length=en):Calls prog 97 #[.agg #[.slice pA z pc,.slice eA en ec]] w fun e w'=>e=.returned (.tuple #[.int .i64 (ZY ps es).1,.int .i64 (ZY ps es).2])/\Below w.heap.size w w':=by
 have cO:z<=pc:=by rw[<-aR];exact hB.pc'
 have cM:en<=ec:=by rw[<-aO];exact hB.ec'
 have cN:z<=1000:=by rw[<-aR];exact hF.p
 have cL:en<=1000:=by rw[<-aO];exact hF.e
 have aJ:=Zxi hB;have bA:=Zxi hF;have aD:=Zxi aR;have X:=Zxi aO;have hv:=Zxi (show ZY ps es=if ZaG z≠0 then (0,ZaG z) else match Zbg (ZaU ps) 0 with
    |some (k,e)=>((k:Int),e)|none=>if 8<en then (0,8)else match Zbg (ZaF z es) 0 with
     |some (k,e)=>((k:Int),e)|none=>(0,0)by rw[<-aR,<-aO];rfl);obtain⟨V,hV⟩:∃V,ZY ps es=V:=⟨_,rfl⟩;rw[hV]at hv |-;have aX:Hid (ZaG z=Z1 [unl (decide (0<z)) 10,unl (decide (z<=5)) 8]):=rfl;obtain⟨S,hS⟩:∃S,ZaG z=S:=⟨_,rfl⟩;rw[hS]at hv aX;clear hB hF aR aO hV hS;obtain⟨s1,bF⟩:∃b,decide (0<z)=b:=⟨_,rfl⟩;obtain⟨s2,bG⟩:∃b,decide (z<=5)=b:=⟨_,rfl⟩;rw[bF,bG]at aX;have bP:decide ((0:Int)<(z:Int))=s1:=by rw[<-bF,decide_eq_decide];omega
 have bQ:decide ((z:Int)<=5)=s2:=by rw[<-bG,decide_eq_decide];omega
 go_enter func97,ntmps97;go_wp2;refine Zbf ?_;intro w1 bH;have bE:Below w.heap.size w w1:=by rw[bH];go_grown
 have M0:w1.heap[w.heap.size]?=some (.cells #[.slice pA z pc,.slice eA en ec] 25 (0,0)):=by rw[bH];(repeat (first|assumption|(refine ZA _ _ ?_;(simp;done))|refine ZD ?_|refine Zz ?_ _|refine ZB ?_ (by simp<;>omega) _))
 have D:=bk2 M0;clear bH;refine ZaR w 10 (by kernel_rfl) (by kernel_rfl) bE ?_;intro aG aF;simp only[ZyY,Zy0,ZxB,ZxC];repeat (go_big_quiet_step ((go_at_call 67;with_reducible exact Zd (Zbn _ _ _))))
 refine wpQuiet_nil ?_;intro wb h F Z;clear aG aF;have M1:=Zw h M0;have D2:=bk2 M1;have H:=via bE h;clear M0 D bE h;have aA:=Zxi aX.out.symm;by_cases bD:S=0
 ·subst bD;have m:=aA.out;have aS:=Zxi (show V=match Zbg (ZaU ps) 0 with|some (k,e)=>((k:Int),e)|none=>if 8<en then (0,8)else match Zbg (ZaF z es) 0 with
     |some (k,e)=>((k:Int),e)|none=>(0,0)by rw[hv.out,if_neg (by simp)]);clear hv aX aA bF bG bP bQ;go_wp2_with (go_at_call 65;refine(ZdD _ _ _).mono ?_;rw[m];rintro e w' ⟨rfl,rfl⟩);go_loopw [32] (fun i wr=>∃k:Nat,k<=z/\i=.int .i64 k/\Hid (∀j,j<k->(ZaU ps).getD j 0=0)/\wr.heap[w.heap.size]?=some (.cells #[.slice pA z pc,.slice eA en ec] 25 (0,0))/\Below w.heap.size w wr)(fun i _=>z-(intOf i).toNat);case atStart=>exact⟨0,Zzx _,rfl,fun j hj=>by omega,by(repeat (first|assumption|(refine ZA _ _ ?_;(simp;done))|refine ZD ?_|refine Zz ?_ _|refine ZB ?_ (by simp<;>omega) _)),by go_grown⟩
  case round=>
   clear M1 D2 H F Z m;obtain⟨k,hk,rfl,hz,M1,H⟩:=hrel;have D:=bk2 M1;by_cases aH:k<z
   ·have cA:(k:Int)<(z:Int):=by omega
    obtain⟨p,hp⟩:∃p,ps[k]?=some p:=⟨_,ZxX (by rw[aD.out];exact aH)⟩;obtain⟨b,o,rfl,bW,hc⟩:=(aJ.out.below H).P k p hp;have y0:=hc 0 _ rfl;have y1:=hc 1 _ rfl;have y2:=hc 2 _ rfl;have y3:=hc 3 _ rfl;have y4:=hc 4 _ rfl;simp only[Zy6]at y0;have J:=Zxi (ZcO hp);have cC:¬((pc:Int)<(k:Int)):=by omega
    have bM:(k:Int)<=(pc:Int):=by omega
    have G:=Zxi (by have h1:=ZoV (some ⟨b,o,none⟩) (ps.take k) pc wr.heap.size (fun q=>eqS q.nm p.nm) (wr.alloc (.cells #[.string p.nm,.int .i64 p.a0,.int .i64 p.a1,.int .i64 p.c0,.int .i64 p.c1] 101 (0,0))) (by rw[Zyj];have:=aD.out;omega) (((aJ.out.below H).P.take' k).below (ZC _ _)) (fun y _ W hW=>Zo1 p y wr.heap.size W (Zw hW (ZA _ _ rfl)));rw[Zyj,aD.out,Zzk (by omega)]at h1;exact h1);obtain⟨q,hq⟩:∃q,(ps.take k).any (fun q=>eqS q.nm p.nm)=q:=⟨_,rfl⟩;rw[hq]at G;have U:Hid (Zav ps k p=Z1 [unl (Zam p.nm.data.toList) 4,unl (!((ps.take k).any fun q=>eqS q.nm p.nm)) 5,ZbI p.a0 p.a1 400,ZbI p.c0 p.c1 20]):=rfl;rw[hq]at U;obtain⟨E,hE⟩:∃E,Zav ps k p=E:=⟨_,rfl⟩;rw[hE]at U J;have aW:=Zxi (show p.nm.size<=9223372036854775807 from Zzb (bA.out.pn p (ZyD hp)) (by decide));have cE:=ZI M1;clear hc hp hq hE;go_wp2_with (go_at_call 118;refine G.out.mono ?_;rintro e w3 ⟨rfl,I⟩);have N0:=Zw I (Zz M1 (.cells #[.string p.nm,.int .i64 p.a0,.int .i64 p.a1,.int .i64 p.c0,.int .i64 p.c1] 101 (0,0)));have N:=Zw I (ZA wr (.cells #[.string p.nm,.int .i64 p.a0,.int .i64 p.a1,.int .i64 p.c0,.int .i64 p.c1] 101 (0,0)) rfl);have aB:=via H (via (ZC wr (.cells #[.string p.nm,.int .i64 p.a0,.int .i64 p.a1,.int .i64 p.c0,.int .i64 p.c1] 101 (0,0))) I);have e0:w3.cell? ⟨wr.heap.size,0,none⟩=some (.string p.nm):=by unfold World.cell?;simp[N]
    have e1:w3.cell? ⟨wr.heap.size,1,none⟩=some (.int .i64 p.a0):=by unfold World.cell?;simp[N]
    have e2:w3.cell? ⟨wr.heap.size,2,none⟩=some (.int .i64 p.a1):=by unfold World.cell?;simp[N]
    have e3:w3.cell? ⟨wr.heap.size,3,none⟩=some (.int .i64 p.c0):=by unfold World.cell?;simp[N]
    have e4:w3.cell? ⟨wr.heap.size,4,none⟩=some (.int .i64 p.c1):=by unfold World.cell?;simp[N]
    have cP:=ZI N;clear y0 y1 y2 y3 y4 I D M1 G;refine ZaR w 13 (by kernel_rfl) (by kernel_rfl) aB ?_;intro aG aF;simp only[ZyY,Zy0,ZxB,ZxC];repeat (go_big_quiet_step (first|(go_at_call 62;with_reducible exact Grew.call (Ze3 _ _ aW.out))|(go_at_call 67;with_reducible exact Zd (Zbn _ _ _))|(go_at_call 110;with_reducible exact Grew.call (ZkG _ _ _ _))))
    refine wpQuiet_nil ?_;intro wb h F Z;clear aG aF;have P0:=Zw h N0;clear N0 N e0 e1 e2 e3 e4 aB h;have aA:=Zxi U.out.symm;have m:=aA.out;by_cases O:E=0
    ·subst O;go_wp2_with (go_at_call 65;refine(Zcd _ _ _ _ _).mono ?_;rw[m];rintro e w' ⟨rfl,rfl⟩);go_roundw;case rel=>exact⟨k+1,by omega,by go_num,(fun j hj=>by
      by_cases aP:j=k;·rw[aP,J.out]
      ·exact hz.out j (by omega)),Zz P0 _,via F (ZC _ _)⟩
     case measure=>simp[intOf]<;>omega
    ·have bK : (E != 0) = true := by simpa using O
     have aU:=Zxi (show V=((k:Int),E)by rw[aS.out,Zeo (ZaU ps) 0 k (by simp[ZaU];rw[aD.out];exact aH) hz.out (by rw[J.out];exact O),J.out];simp);go_wp2_with (go_at_call 65;refine(Zcd _ _ _ _ _).mono ?_;rw[m];rintro e w' ⟨rfl,rfl⟩);go_ret2;exact⟨by rw[aU.out];rfl,by go_grown⟩
   ·obtain rfl:z=k:=by omega
    have bS:=Zxi (show V=if 8<en then (0,8)else match Zbg (ZaF z es) 0 with
      |some (k,e)=>((k:Int),e)|none=>(0,0)by rw[aS.out,ZcN (ZaU ps) 0 fun i hi=>hz.out i (by simp[ZaU]at hi;rw[aD.out]at hi;exact hi)]);clear hz aH aS;by_cases h8:8<en
    ·have aT:=Zxi (show V=(0,8)by rw[bS.out,if_pos h8]);have bT:(8:Int)<(en:Int):=by omega
     go_wp2;go_ret2;exact⟨by rw[aT.out];rfl,by go_grown⟩
    ·have bT:¬(8:Int)<(en:Int):=by omega
     have aT:=Zxi (show V=match Zbg (ZaF z es) 0 with|some (k,e)=>((k:Int),e)|none=>(0,0)by rw[bS.out,if_neg h8]);go_wp2;go_loopw [70] (fun i wr=>∃k:Nat,k<=en/\i=.int .i64 k/\Hid (∀j,j<k->(ZaF z es).getD j 0=0)/\wr.heap[w.heap.size]?=some (.cells #[.slice pA z pc,.slice eA en ec] 25 (0,0))/\Below w.heap.size w wr)(fun i _=>en-(intOf i).toNat);case atStart=>exact⟨0,Zzx _,rfl,fun j hj=>by omega,M1,H⟩
     case round=>
      clear M1 D H;obtain⟨k,hk,rfl,hz,M1,H⟩:=hrel;have D:=bk2 M1;by_cases aH:k<en
      ·have cA:(k:Int)<(en:Int):=by omega
       obtain⟨x,hx⟩:∃x,es[k]?=some x:=⟨_,ZxX (by rw[X.out];exact aH)⟩;have aV:=ZyD hx;obtain⟨b,o,rfl,bW,hc⟩:=(aJ.out.below H).E.1 k x hx;have y0:=hc 0 _ rfl;have y1:=hc 1 _ rfl;have y2:=hc 2 _ rfl;simp only[Zy6]at y0;have J:=Zxi (ZdN (np:=z) hx);have cC:¬((ec:Int)<(k:Int)):=by omega
       have bM:(k:Int)<=(ec:Int):=by omega
       have G:=Zxi (by have h1:=ZoX (some ⟨b,o,none⟩) (es.take k) ec wr.heap.size (fun y=>eqS y.nm x.nm) (wr.alloc (.cells #[.string x.nm,.slice x.A x.co.length x.c,.int .i64 x.mo] 71 (0,0))) (by rw[Zyj];have:=X.out;omega) (((aJ.out.below H).E.1.take' k).below (ZC _ _)) (fun y _ W hW=>Zo2 x y wr.heap.size W (Zw hW (ZA _ _ rfl)));rw[Zyj,X.out,Zzk (by omega)]at h1;exact h1);obtain⟨q,hq⟩:∃q,(es.take k).any (fun y=>eqS y.nm x.nm)=q:=⟨_,rfl⟩;rw[hq]at G;have U:Hid (ZaZ z es k x=Z1 [unl (Zam x.nm.data.toList) 4,unl (!((es.take k).any fun y=>eqS y.nm x.nm)) 5,unl (decide (x.co.length=z)) 10,unl (!((x.mo::x.co).any fun n=>!Za7 n 20)) 2]):=rfl;rw[hq]at U;obtain⟨E,hE⟩:∃E,ZaZ z es k x=E:=⟨_,rfl⟩;rw[hE]at U J;have aW:=Zxi (show x.nm.size<=9223372036854775807 from Zzb (bA.out.en x aV) (by decide));have bJ:=Zxi ((aJ.out.below H).E.2 x aV);have bZ:=bA.out.co x aV;have aZ:=Zxi (aJ.out.nil x aV);have cE:=ZI M1;obtain⟨L,hL⟩:∃L,x.co.length=L:=⟨_,rfl⟩;have bB:=Zxi hL;rw[hL]at G U bZ y1;obtain⟨r,hr⟩:∃r,(x.mo::x.co).any (fun n=>!Za7 n 20)=r:=⟨_,rfl⟩;have bO:=Zxi hr;rw[hr]at U;obtain⟨s,hs⟩:∃s,decide (L=z)=s:=⟨_,rfl⟩;rw[hs]at U;have bR:((L:Int)==(z:Int))=s:=by rw[<-hs,ZwO];simp;omega
       obtain⟨i0,hi,cG,cH,cI⟩:=info_parts info3;clear hc hx aV hq hE hL hr;have aQ:=Zxi fun(y:World)=>(⟨rfl,.inr ⟨y.heap.size,1,#[.int .i64 x.mo],rfl,Zza _,ZA _ _ rfl,Zza _,by decide,rfl,rfl⟩⟩:(y.alloc (.cells #[.int .i64 x.mo] 3 (0,0))).ownsRow y.heap.size 3 1 (.slice (some ⟨y.heap.size,0,none⟩) 1 1) 1 [.int .i64 x.mo]);obtain⟨XA,bV⟩:∃A,x.A=A:=⟨_,rfl⟩;rw[bV]at y1 bJ aZ G;rcases XA with _|ad
       ·have aN:x.co=[]:=by cases hh:x.co with|nil=>rfl|cons y l=>obtain⟨b',o',e,-⟩:=bJ.out 0 y (by rw[hh];rfl);cases e
        have bU:L=0:=by rw[<-bB.out,aN];rfl
        subst bU;have cJ:((0:Int)==(z:Int))=s:=bR;clear bR;have bX:=aZ.out rfl;rw[bX]at y1 G;have G:=Zxi G.out;go_wp2_with (first|(go_at_call 120;refine G.out.mono ?_;rintro e w3 ⟨rfl,I⟩;have N:=Zw I (ZA wr (.cells #[.string x.nm,.slice none 0 0,.int .i64 x.mo] 71 (0,0)) rfl);have D1:=bk3 N;have N0:=Zw I (Zz M1 (.cells #[.string x.nm,.slice none 0 0,.int .i64 x.mo] 71 (0,0)));have D0:=bk2 N0;have aB:=via H (via (ZC wr (.cells #[.string x.nm,.slice none 0 0,.int .i64 x.mo] 71 (0,0))) I))|(at_builtin;refine wpList_append_own_none rfl _ _ 31 rfl w3.heap.size 3 i0 1 underlying31 hi _ 1 [.int .i64 x.mo] rfl (aQ.out w3) rfl ?_;refine ZoI ?stop));case stop=>
        refine Zxi ?_;refine Zo3 ?_;intro w4 bI;have R:Below w3.heap.size w3 w4:=by rw[bI];exact ZC _ _
        have aE:=Zxi (show At 1 Zc w4 (some ⟨w3.heap.size,0,none⟩) (x.mo::x.co)by rw[aN,bI];exact(ZJ.new (T:=3) w3 [x.mo]).at');have aC:=Zxi (show (x.mo::x.co).length=1 by rw[aN];rfl);clear bI;have aK:=Zxi (by have h1:=ZkF _ (x.mo::x.co) 1 (fun n=>!Za7 n 20) w4 (by rw[aC.out];omega) aE.out (fun y _ W hW=>ZkH y W);rw[bO.out,aC.out]at h1;exact h1);have O0:=Zw R N0;have O1:=Zw R N;have aL:=via aB R;have D0:=bk2 O0;have D1:=bk3 O1;clear N0 N aB G;go_wp2_with (go_at_call 98;refine aK.out.mono ?_;rintro e w6 ⟨rfl,Y⟩);have N0:=Zw Y O0;have N:=Zw Y O1;have aM:=via aL Y;clear D0 D1 O0 O1 aL Y aK;have D0:=bk2 N0;have D1:=bk3 N;have cD:=ZI N;refine ZaR w 18 (by kernel_rfl) (by kernel_rfl) aM ?_;intro aG aF;simp only[ZyY,Zy0,ZxB,ZxC];repeat (go_big_quiet_step (first
         |(go_at_call 62;with_reducible exact Grew.call (Ze3 _ _ aW.out))|(go_at_call 67;with_reducible exact Zd (Zbn _ _ _))))
        refine wpQuiet_nil ?_;intro wb h F Z;clear aG aF;have P0:=Zw h N0;clear N0 N D0 D1 aM h;have aA:=Zxi U.out.symm;have m:=aA.out;by_cases O:E=0
        ·subst O;go_wp2_with (go_at_call 65;refine(Zcd _ _ _ _ _).mono ?_;rw[m];rintro e w' ⟨rfl,rfl⟩);go_roundw;case rel=>exact⟨k+1,by omega,by go_num,(fun j hj=>by
          by_cases aP:j=k;·rw[aP,J.out]
          ·exact hz.out j (by omega)),Zz P0 _,via F (ZC _ _)⟩
         case measure=>simp[intOf]<;>omega
        ·have bK : (E != 0) = true := by simpa using O
         have aU:=Zxi (show V=((k:Int),E)by rw[aT.out,Zeo (ZaF z es) 0 k (by simp[ZaF];rw[X.out];exact aH) hz.out (by rw[J.out];exact O),J.out];simp);go_wp2_with (go_at_call 65;refine(Zcd _ _ _ _ _).mono ?_;rw[m];rintro e w' ⟨rfl,rfl⟩);go_ret2;exact⟨by rw[aU.out];rfl,by go_grown⟩
       ·go_wp2_with (first|(go_at_call 120;refine G.out.mono ?_;rintro e w3 ⟨rfl,I⟩;have N:=Zw I (ZA wr (.cells #[.string x.nm,.slice (some ad) L x.c,.int .i64 x.mo] 71 (0,0)) rfl);have D1:=bk3 N;have N0:=Zw I (Zz M1 (.cells #[.string x.nm,.slice (some ad) L x.c,.int .i64 x.mo] 71 (0,0)));have D0:=bk2 N0;have aB:=via H (via (ZC wr (.cells #[.string x.nm,.slice (some ad) L x.c,.int .i64 x.mo] 71 (0,0))) I))|(at_builtin;refine wpList_append_own _ rfl _ _ 31 rfl w3.heap.size 3 i0 (.int .i64 0) 1 8 underlying31 hi cG cH cI rfl (by decide) _ _ _ rfl (aQ.out w3) ad L x.c (x.co.map (Value.int .i64)) rfl ?c0 ?c1 ?c2 ?c3 ?c4 ?c5 ?_));case c0=>rw[Zyf,bB.out,Zzn]
        case c1=>
         intro j u hu;rw[Zx1]at hu;obtain⟨y,hy,rfl⟩:=ZzC.1 hu;obtain⟨b',o',e,-,bY⟩:=((bJ.out.below (via (ZC wr (.cells #[.string x.nm,.slice (some ad) L x.c,.int .i64 x.mo] 71 (0,0))) I)).below (ZC w3 (.cells #[.int .i64 x.mo] 3 (0,0)))) j y hy;cases e;have e:Addr.add ⟨b',o',none⟩ j=⟨b',o'+j,none⟩:=by unfold Addr.add;split<;>simp_all
         rw[e];simpa using bY 0 _ rfl
        case c2=>intro u hu;obtain⟨y,-,rfl⟩:=ZyC.1 hu;rfl
        case c3=>unfold maxLen;omega
        case c4=>omega
        case c5=>simp
        intro v4 w4 aI bL _;obtain⟨A4,c4,rfl⟩:=Z6 aI;have R:Below w3.heap.size w3 w4:=Z3 (ZC w3 _) bL fun b e=>by cases e;exact Zza _
        have aY:=ZaE (l:=x.mo::x.co) aI;have bN:(x.mo::x.co).length=1+L:=by simp only[Zyd];rw[bB.out];omega
        have aE:=Zxi aY;have aC:=Zxi bN;clear aI bL aY bN;have aK:=Zxi (by have h1:=ZkF _ (x.mo::x.co) c4 (fun n=>!Za7 n 20) w4 (by rw[aC.out];omega) aE.out (fun y _ W hW=>ZkH y W);rw[bO.out,aC.out]at h1;exact h1);have O0:=Zw R N0;have O1:=Zw R N;have aL:=via aB R;have D0:=bk2 O0;have D1:=bk3 O1;clear N0 N aB G;go_wp2_with (go_at_call 98;refine aK.out.mono ?_;rintro e w6 ⟨rfl,Y⟩);have N0:=Zw Y O0;have N:=Zw Y O1;have aM:=via aL Y;clear D0 D1 O0 O1 aL Y aK;have D0:=bk2 N0;have D1:=bk3 N;have cD:=ZI N;refine ZaR w 18 (by kernel_rfl) (by kernel_rfl) aM ?_;intro aG aF;simp only[ZyY,Zy0,ZxB,ZxC];repeat (go_big_quiet_step (first|(go_at_call 62;with_reducible exact Grew.call (Ze3 _ _ aW.out))|(go_at_call 67;with_reducible exact Zd (Zbn _ _ _))))
        refine wpQuiet_nil ?_;intro wb h F Z;clear aG aF;have P0:=Zw h N0;clear N0 N D0 D1 aM h;have aA:=Zxi U.out.symm;have m:=aA.out;by_cases O:E=0
        ·subst O;go_wp2_with (go_at_call 65;refine(Zcd _ _ _ _ _).mono ?_;rw[m];rintro e w' ⟨rfl,rfl⟩);go_roundw;case rel=>exact⟨k+1,by omega,by go_num,(fun j hj=>by
          by_cases aP:j=k;·rw[aP,J.out]
          ·exact hz.out j (by omega)),Zz P0 _,via F (ZC _ _)⟩
         case measure=>simp[intOf]<;>omega
        ·have bK : (E != 0) = true := by simpa using O
         have aU:=Zxi (show V=((k:Int),E)by rw[aT.out,Zeo (ZaF z es) 0 k (by simp[ZaF];rw[X.out];exact aH) hz.out (by rw[J.out];exact O),J.out];simp);go_wp2_with (go_at_call 65;refine(Zcd _ _ _ _ _).mono ?_;rw[m];rintro e w' ⟨rfl,rfl⟩);go_ret2;exact⟨by rw[aU.out];rfl,by go_grown⟩
      ·obtain rfl:en=k:=by omega
       have cF:=Zxi (show V=(0,0)by rw[aT.out,ZcN (ZaF z es) 0 fun i hi=>hz.out i (by simp[ZaF]at hi;rw[X.out]at hi;exact hi)]);go_wp2;go_ret2;exact⟨by rw[cF.out];rfl,H⟩
 ·have cK : (S != 0) = true := by simpa using bD
  have aS:=Zxi (show V=(0,S)by rw[hv.out,if_pos bD]);have m:=aA.out;go_wp2_with (go_at_call 65;refine(ZdD _ _ _).mono ?_;rw[m];rintro e w' ⟨rfl,rfl⟩);go_ret2;exact⟨by rw[aS.out];rfl,by go_grown⟩
theorem Zfb(p h:Option Addr)(q j u m:Nat)(ps:List Pa)(es:List En)(w:World)(hB:BookAt w p q ps h j es)(hF:FewB ps es)(D:ps.length=u)(z:es.length=m):Calls prog 66 #[.agg #[.slice p u q,.slice h m j]] w fun e w'=>e=.returned (.int .i64 (ZY ps es).2)/\Below w.heap.size w w':=by have E:=Zxi (Zo4 p h q j u m ps es (w.alloc (.cells #[.slice p u q,.slice h m j] 25 (0,0))) (hB.below (ZC _ _)) hF D z);go_enter func66,ntmps66;go_wp2_with (go_at_call 97;refine E.out.mono ?_;rintro e w2 ⟨rfl,y⟩);go_ret;exact⟨rfl,via (ZC _ _) y⟩
def ZaD(ps:List Pa)(es:List En)(k ag:Int):Int:=Z1 [(ZY ps es).2,ZcM k ag]
theorem ZkI(z q:Option Addr)(D u F y:Nat)(ps:List Pa)(es:List En)(k ag:Int)(w:World)(hB:BookAt w z D ps q u es)(hF:FewB ps es)(p:ps.length=F)(m:es.length=y):Calls prog 48 #[.agg #[.slice z F D,.slice q y u],.agg #[.int .i64 k,.int .i64 ag]] w fun e w'=>e=.returned (.int .i64 (ZaD ps es k ag))/\Below w.heap.size w w':=by
 unfold ZaD;have O:=Zxi fun W (V:Below w.heap.size w W)=>Zfb z q D u F y ps es W (hB.below V) hF p m;obtain⟨E,R⟩:∃E,(ZY ps es).2=E:=⟨_,rfl⟩;rw[R]at O |-;clear hB hF p m R;go_enter func48,ntmps48;go_wp2;refine Zbf ?_;intro N h;have G:Below w.heap.size w N:=by rw[h];go_grown
 have S:N.heap[w.heap.size]?=some (.cells #[.slice z F D,.slice q y u] 25 (0,0)):=by rw[h];(repeat (first|assumption|(refine ZA _ _ ?_;(simp;done))|refine ZD ?_|refine Zz ?_ _|refine ZB ?_ (by simp<;>omega) _))
 have U:N.heap[w.heap.size+1]?=some (.cells #[.int .i64 k,.int .i64 ag] 27 (0,0)):=by rw[h];(repeat (first|assumption|(refine ZA _ _ ?_;(simp;done))|refine ZD ?_|refine Zz ?_ _|refine ZB ?_ (by simp<;>omega) _))
 have X:=bk2 S;have Y:=bk2 U;clear h;refine ZaR w 4 (by kernel_rfl) (by kernel_rfl) G ?_;intro I j;simp only[ZyY,Zy0,ZxB,ZxC];repeat (go_big_quiet_step (first
  |(go_at_call 66;with_reducible exact Grew.call (O.out _ (j.out _)))|(go_at_call 68;with_reducible exact Grew.call (Zh6 _ _ _))))
 refine wpQuiet_nil ?_;intro Z H L J;clear I j;go_wp2_with (go_at_call 65;refine(ZdD _ _ _).mono ?_;rintro e w' ⟨rfl,rfl⟩);go_ret;exact⟨rfl,by go_grown⟩
def Z0(ps:List Pa)(k ag:Int):List Int:=ps.map fun p=>if k=0 then p.a0 else if ag<=p.a0 then 1 else 0
theorem Zo5{ps:List Pa} {k ag:Int} {j:Nat} {p:Pa} (h:ps[j]?=some p):Z0 (ps.take (j+1)) k ag=Z0 (ps.take j) k ag++[if k=0 then p.a0 else if ag<=p.a0 then 1 else 0]:=by unfold Z0;rw[ZyV,h];simp
theorem ZkJ(pA eA:Option Addr)(pc ec H en:Nat)(ps:List Pa)(k ag:Int)(w:World)(hP:At 5 Pa.cs w pA ps)(aA:ps.length=H)(hp:H<=1000):Calls prog 50 #[.agg #[.slice pA H pc,.slice eA en ec],.agg #[.int .i64 k,.int .i64 ag]] w fun e w'=>(∃A c,e=.returned (.slice A H c)/\w'.ownsRow w.heap.size 3 1 (.slice A H c) H ((Z0 ps k ag).map (Value.int .i64)))/\Below w.heap.size w w':=by
 have aB:=Zxi hP;have L:=Zxi aA;obtain⟨i0,hi,S,U,V⟩:=info_parts info3;clear hP aA;go_enter func50,ntmps50;go_wp2;go_loopw [5,11] (fun v i wr=>∃j:Nat,j<=H/\i=.int .i64 j/\Hid (wr.ownsRow (w.heap.size+2) 3 1 v j ((Z0 (ps.take j) k ag).map (Value.int .i64)))/\wr.heap[w.heap.size+1]?=some (.cells #[.int .i64 k,.int .i64 ag] 27 (0,0))/\Below w.heap.size w wr)(fun _ i _=>H-(intOf i).toNat);case atStart=>exact⟨0,Zzx _,rfl,Zxi (World.ownsRow_nil _ _ _ _),by(repeat (first|assumption|(refine ZA _ _ ?_;(simp;done))|refine ZD ?_|refine Zz ?_ _|refine ZB ?_ (by simp<;>omega) _)),by go_grown⟩
 case round=>
  obtain⟨j,hj,rfl,F,M1,G⟩:=hrel;obtain⟨A5,c5,rfl⟩:=Z6 F.out;have D1:=bk2 M1;have aG:=ZI M1;by_cases aD:j<H
  ·have aF:(j:Int)<(H:Int):=by omega
   obtain⟨p,R⟩:∃p,ps[j]?=some p:=⟨_,ZxX (by rw[L.out];exact aD)⟩;obtain⟨b,o,rfl,aE,X⟩:=aB.out.below G j p R;have y0:=X 0 _ rfl;have y1:=X 1 _ rfl;have y2:=X 2 _ rfl;have y3:=X 3 _ rfl;have y4:=X 4 _ rfl;simp only[Zy6]at y0;have D:=Zxi (Zo5 (k:=k) (ag:=ag) R);have z:=Zxi (ZP F.out (ZC wr (.cells #[.string p.nm,.int .i64 p.a0,.int .i64 p.a1,.int .i64 p.c0,.int .i64 p.c1] 101 (0,0))));have I:=Zxi (via G (ZC wr (.cells #[.string p.nm,.int .i64 p.a0,.int .i64 p.a1,.int .i64 p.c0,.int .i64 p.c1] 101 (0,0))));have M2:=Zz M1 (.cells #[.string p.nm,.int .i64 p.a0,.int .i64 p.a1,.int .i64 p.c0,.int .i64 p.c1] 101 (0,0));clear X R F;by_cases J:k=0
   ·have aC:(k==0)=true:=by simp[J]
    have m:=Zxi (show Z0 (ps.take (j+1)) k ag=Z0 (ps.take j) k ag++[p.a0]by rw[D.out,if_pos J]);replace D:=m;clear m J;go_wp2_with (at_builtin;refine wpList_append_own _ rfl _ _ 31 rfl (w.heap.size+2) 3 i0 (.int .i64 0) 1 8 underlying31 hi S U V rfl (by decide) _ _ _ rfl (z.out.alloc _) ⟨wr.heap.size+1,0,none⟩ 1 1 [.int .i64 (p.a0)] rfl rfl ?c1 ?c2 ?c3 ?c4 ?c5 ?_);try (case c1=>exact Zbp _ [.int .i64 (p.a0)] _ (by simp))
    case c2=>first|rfl|(intro u N;simp at N;subst N;rfl)
    case c3=>first|omega|(unfold maxLen;omega)
    case c4=>omega
    case c5=>have:=G.size;first|omega|(simp;omega)
    intro v' O h q _;have y:=Zxi (show O.ownsRow (w.heap.size+2) 3 1 v' (j+1) ((Z0 (ps.take (j+1)) k ag).map (Value.int .i64))from by rw[D.out,Zyn];exact h);have Y:=ZaM q (Zz M2 _) (ZaL z.out (by omega));have E:Below w.heap.size w O:=Z3 (via I.out (ZC _ _)) q fun b e=>by have:=(z.out.lt b e).1;omega
    clear h q;go_wp2;go_roundw;case rel=>exact⟨j+1,by omega,by go_num,y.out,Y,E⟩
    case measure=>simp[intOf]<;>omega
   ·have aC:(k==0)=false:=by simpa using J
    by_cases ha:ag<=p.a0
    ·have m:=Zxi (show Z0 (ps.take (j+1)) k ag=Z0 (ps.take j) k ag++[1]by rw[D.out,if_neg J,if_pos ha]);replace D:=m;clear m J;go_wp2_with (at_builtin;refine wpList_append_own _ rfl _ _ 31 rfl (w.heap.size+2) 3 i0 (.int .i64 0) 1 8 underlying31 hi S U V rfl (by decide) _ _ _ rfl (z.out.alloc _) ⟨wr.heap.size+1,0,none⟩ 1 1 [.int .i64 (1)] rfl rfl ?c1 ?c2 ?c3 ?c4 ?c5 ?_);try (case c1=>exact Zbp _ [.int .i64 (1)] _ (by simp))
     case c2=>first|rfl|(intro u N;simp at N;subst N;rfl)
     case c3=>first|omega|(unfold maxLen;omega)
     case c4=>omega
     case c5=>have:=G.size;first|omega|(simp;omega)
     intro v' O h q _;have y:=Zxi (show O.ownsRow (w.heap.size+2) 3 1 v' (j+1) ((Z0 (ps.take (j+1)) k ag).map (Value.int .i64))from by rw[D.out,Zyn];exact h);have Y:=ZaM q (Zz M2 _) (ZaL z.out (by omega));have E:Below w.heap.size w O:=Z3 (via I.out (ZC _ _)) q fun b e=>by have:=(z.out.lt b e).1;omega
     clear h q;go_wp2;go_roundw;case rel=>exact⟨j+1,by omega,by go_num,y.out,Y,E⟩
     case measure=>simp[intOf]<;>omega
    ·have m:=Zxi (show Z0 (ps.take (j+1)) k ag=Z0 (ps.take j) k ag++[0]by rw[D.out,if_neg J,if_neg ha]);replace D:=m;clear m J;go_wp2_with (at_builtin;refine wpList_append_own _ rfl _ _ 31 rfl (w.heap.size+2) 3 i0 (.int .i64 0) 1 8 underlying31 hi S U V rfl (by decide) _ _ _ rfl (z.out.alloc _) ⟨wr.heap.size+1,0,none⟩ 1 1 [.int .i64 (0)] rfl rfl ?c1 ?c2 ?c3 ?c4 ?c5 ?_);try (case c1=>exact Zbp _ [.int .i64 (0)] _ (by simp))
     case c2=>first|rfl|(intro u N;simp at N;subst N;rfl)
     case c3=>first|omega|(unfold maxLen;omega)
     case c4=>omega
     case c5=>have:=G.size;first|omega|(simp;omega)
     intro v' O h q _;have y:=Zxi (show O.ownsRow (w.heap.size+2) 3 1 v' (j+1) ((Z0 (ps.take (j+1)) k ag).map (Value.int .i64))from by rw[D.out,Zyn];exact h);have Y:=ZaM q (Zz M2 _) (ZaL z.out (by omega));have E:Below w.heap.size w O:=Z3 (via I.out (ZC _ _)) q fun b e=>by have:=(z.out.lt b e).1;omega
     clear h q;go_wp2;go_roundw;case rel=>exact⟨j+1,by omega,by go_num,y.out,Y,E⟩
     case measure=>simp[intOf]<;>omega
  ·obtain rfl:H=j:=by omega
   have Z:=Zxi (show ps.take H=ps by rw[<-L.out,ZyW]);go_wp2;go_ret;exact⟨⟨A5,c5,rfl,Za5 (by have:=F.out;rwa [Z.out]at this) (Nat.le_add_right _ 2)⟩,G⟩
end Go.Proofs
namespace Go.Proofs
open Go.RowKit
variable {n lo hi k ag:Int} {ps:List Pa} {es:List En}
theorem ZbJ{es:List Int}:Z1 es=0↔∀e∈es,e=0:=by induction es with
 |nil=>simp[Z1]|cons e es ih=>
  unfold Z1;by_cases h:e=0;·rw[if_pos h,ih];simp[h]
  ·rw[if_neg h];simp[h]
theorem ZaV{b:Bool} (h:n≠0):unl b n=0↔b=true:=by unfold unl;cases b<;>simp[h]
theorem ZaW:Z2 n lo hi=true↔lo<=n/\n<=hi:=by simp[Z2]
theorem Zh7:∀(l:List Int)(k:Nat),Zbg l k=none->∀i,i<l.length->l.getD i 0=0
 |[],_,_,i,h=>by simp at h|e::l,k,h,i,hi=>by
  unfold Zbg at h;split at h;·rename_i j;cases i with
   |zero=>simpa using j|succ i=>simpa using Zh7 l (k+1) h i (by simpa using hi)
  ·cases h
theorem Zh8:∀(l:List Int)(k:Nat) {i:Nat} {e:Int},Zbg l k=some (i,e)->e≠0
 |[],_,_,_,h=>by cases h|e::l,k,i,e',h=>by
  unfold Zbg at h;split at h;·exact Zh8 l (k+1) h
  ·rename_i j;cases h;exact j
theorem Zf6{m:Int}:ZbI lo hi m=0↔0<=lo/\lo<=m/\0<=hi/\hi<=m/\lo<=hi:=by unfold ZbI;rw[ZbJ];simp only[Zyx,ZyN,or_false,forall_eq_or_imp,forall_eq];rw[ZaV (by decide),ZaV (by decide),ZwL,ZaW,ZaW,decide_eq_true_eq];omega
structure BookR (ps:List Pa)(es:List En):Prop where
 n1:1<=ps.length
 n5:ps.length<=5
 e8:es.length<=8
 part:∀i p,ps[i]?=some p->Zam p.nm.data.toList=true/\(ps.take i).any (fun q=>eqS q.nm p.nm)=false/\(0<=p.a0/\p.a0<=400/\0<=p.a1/\p.a1<=400/\p.a0<=p.a1)/\(0<=p.c0/\p.c0<=20/\0<=p.c1/\p.c1<=20/\p.c0<=p.c1)
 ent:∀i x,es[i]?=some x->Zam x.nm.data.toList=true/\(es.take i).any (fun y=>eqS y.nm x.nm)=false/\x.co.length=ps.length/\∀n∈x.mo::x.co,n.natAbs<=20
theorem ZbU:(ZY ps es).2=0↔BookR ps es:=by
 have H:ZaG ps.length=0↔1<=ps.length/\ps.length<=5:=by unfold ZaG;rw[ZbJ];simp only[Zyx,ZyN,or_false,forall_eq_or_imp,forall_eq];rw[ZaV (by decide),ZaV (by decide),decide_eq_true_eq,decide_eq_true_eq];omega
 have G:∀i p,Zav ps i p=0↔Zam p.nm.data.toList=true/\(ps.take i).any (fun q=>eqS q.nm p.nm)=false/\(0<=p.a0/\p.a0<=400/\0<=p.a1/\p.a1<=400/\p.a0<=p.a1)/\(0<=p.c0/\p.c0<=20/\0<=p.c1/\p.c1<=20/\p.c0<=p.c1):=fun i p=>by unfold Zav;rw[ZbJ];simp only[Zyx,ZyN,or_false,forall_eq_or_imp,forall_eq];rw[ZaV (by decide),ZaV (by decide),Zf6,Zf6,ZwS]
 have F:∀i x,ZaZ ps.length es i x=0↔Zam x.nm.data.toList=true/\(es.take i).any (fun y=>eqS y.nm x.nm)=false/\x.co.length=ps.length/\∀n∈x.mo::x.co,n.natAbs<=20:=fun i x=>by
  unfold ZaZ;rw[ZbJ];simp only[Zyx,ZyN,or_false,forall_eq_or_imp,forall_eq];rw[ZaV (by decide),ZaV (by decide),ZaV (by decide),ZaV (by decide),ZwS,ZwS,decide_eq_true_eq];have u:∀n:Int,Za7 n 20=true↔n.natAbs<=20:=fun n=>by unfold Za7;rw[ZaW];omega
  have:(x.mo::x.co).any (fun n=>!Za7 n 20)=false↔∀n∈x.mo::x.co,n.natAbs<=20:=by
   rw[Zxn];constructor;·intro h n E;have:=h n E;rw[<-u];simpa using this
   ·intro h n E;have:=(u n).2 (h n E);simp[this]
  rw[this];simp
 unfold ZY;constructor
 ·intro h;split at h;·rename_i m;exact absurd h m
  ·rename_i m;have m:=H.1 (by simpa using m);split at h;·rename_i k e z;exact absurd h (Zh8 _ _ z)
   ·rename_i z;split at h;·cases h
    ·rename_i I;split at h;·rename_i k e D;exact absurd h (Zh8 _ _ D)
     ·rename_i D;refine⟨m.1,m.2,by omega,fun i p hi=>?_,fun i x hi=>?_⟩;·rw[<-G,<-ZcO hi];exact Zh7 _ _ z i (by simpa [ZaU] using (Zx0.1 hi).1)
      ·rw[<-F,<-ZdN hi];exact Zh7 _ _ D i (by simpa [ZaF] using (Zx0.1 hi).1)
 ·intro h;rw[if_neg (by simp[H.2 ⟨h.n1,h.n5⟩])];rw[ZcN (ZaU ps) 0 fun i hi=>by
   have j:i<ps.length:=by simpa [ZaU] using hi
   rw[ZcO (ZxX j),G];exact h.part i _ (ZxX j)];simp only;rw[if_neg (by have:=h.e8;omega)];rw[ZcN (ZaF ps.length es) 0 fun i hi=>by
   have j:i<es.length:=by simpa [ZaF] using hi
   rw[ZdN (ZxX j),F];exact h.ent i _ (ZxX j)]
theorem BookR.right(h:BookR ps es):RightE es ps.length:=by refine⟨h.e8,fun x q=>?_⟩;obtain⟨i,hi⟩:=ZyB.1 q;obtain⟨-,-,m,j⟩:=h.ent i x hi;exact⟨m,fun n p=>j n (Zyy _ p),j _ (by simp)⟩
theorem BookR.worths(h:BookR ps es)(k ag:Int):ZM 400 (Z0 ps k ag):=by
 intro n j;obtain⟨p,m,rfl⟩:=ZyC.1 j;obtain⟨i,hi⟩:=ZyB.1 m;obtain⟨-,-,q,-⟩:=h.part i p hi;split;·omega
 ·split<;>decide
theorem Zo6:ZaD ps es k ag=0↔BookR ps es/\ZcM k ag=0:=by unfold ZaD;rw[ZbJ];simp only[Zyx,ZyN,or_false,forall_eq_or_imp,forall_eq];rw[ZbU]
theorem ZkK:ZcM k ag=0↔(k=0∨k=1)/\0<=ag/\ag<=400:=by unfold ZcM;rw[ZbJ];simp only[Zyx,ZyN,or_false,forall_eq_or_imp,forall_eq];rw[ZaV (by decide),ZaV (by decide),ZaW,ZaW];omega
end Go.Proofs
