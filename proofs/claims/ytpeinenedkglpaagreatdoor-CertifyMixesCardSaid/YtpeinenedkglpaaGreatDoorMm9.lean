import Derived.Test.YtpeinenedkglpaaGreatDoorMm8
import Derived.Lib.SmallJoins
set_option linter.unusedVariables false
set_option linter.unusedSimpArgs false
set_option maxRecDepth 100000
set_option maxHeartbeats 16000000
namespace Go.Proofs
open Go.RowKit Go.WideShapes Go.ChangeShapes
section
variable {H:Type} {enc:TypeId×Value->H} {P:Program}
theorem Zs3{f:Func} {s:ChangeSpec} {apart fresh handsOn again:Bool} {W W':World} {args:Array Value} {v:Value} {ds gs:List (DataW H)} {before pa pv:List MemPlace} (hW:DataW.Whole enc P f.params.toList s.vars apart W args.toList ds gs before)(hres:∀(b:Nat) (sp:Nat->Bool) (hd:Bool),DataW.TrodAll enc P W' b sp hd f.resultTypes.toList (v.resultList f.resultTypes.size) (s.fn H (ds++gs)).results [])(hargs:∀sp:Nat->Bool,(∀p∈before,sp p.block=true)->DataW.TrodAll enc P W' 0 sp true f.params.toList args.toList (s.fn H (ds++gs)).args pa)(hvars:∀sp:Nat->Bool,(∀p∈before,sp p.block=true)->DataW.TrodVars enc P W' sp s.vars (s.fn H (ds++gs)).vars pv)(hps:before=pa++pv)(hb:Below W.heap.size W W')(hok:∀(j:Nat)(t:TypeId)(r:Value),f.resultTypes[j]?=some t->(v.resultList f.resultTypes.size)[j]?=some r->Value.okWide P W' .any 0 t r):s.post enc P f apart fresh handsOn again W args v W':=by
 have hlt:∀p∈before,p.block<W.heap.size:=fun p hp=>hW.lt p hp;have hold:∀p∈before,(fun b=>decide (b<W.heap.size)) p.block=true:=fun p hp=>by simpa using hlt p hp
 refine⟨ds,gs,before,[],pa,pv,hW,hres _ _ _,hargs _ hold,hvars _ hold,World.keptBut_mono (fun p hp=>⟨hp,?_⟩) (hb.frame (·∈before)),fun _=>?_⟩;·rw[hps,Zwf]at hp;exact Or.inr hp
 ·obtain⟨_,_,_,_,_,hz,hn⟩:=hW;refine⟨hok,_,_,([]++pa)++pv,⟨[]++pa,pv,trodAll_append (hargs _ (fun _ _=>rfl)) (hres _ _ _),hvars _ (fun _ _=>rfl),rfl,?_,?_⟩,?_⟩
  ·intro b off hp;have hin:MemPlace.cell b off∈before:=by rw[hps];simpa using hp
   rw[hb.frozen (hlt _ hin)];exact hz b off hin
  ·intro ha;have:=hn ha;rw[hps]at this;simpa using this
  ·intro p hp _;rw[hps];simpa using hp
end
end Go.Proofs
namespace Go.Proofs
open Go.RowKit
def up(n r:Int):Int:=if r*r=n then r else r+1
end Go.Proofs
namespace Go.Proofs
open Go.RowKit
attribute [local go_sem] Oper.semAt_some def Ziu(n:Int):Nat->Int->Int|0,r=>r|t+1,r=>if (r+2^t)*(r+2^t)<=n then Ziu n t (r+2^t)else Ziu n t r
def rt(n:Int):Int:=Ziu n 31 0
end Go.Proofs
namespace Go.Proofs
open Go.RowKit
structure St where
 at_:Int
 inn:Int
 out:Int
end Go.Proofs
namespace Go.Proofs
open Go.RowKit Go.WideShapes Go.ChangeShapes Go.Deep Go.Joins
variable {a:Addr}
section
variable {H:Type} {enc:TypeId×Value->H} {P:Program}
theorem Zl7(hl:laidOutB P=true) {W W':World} (hb:Below W.heap.size W W'):∀{ts:List TypeId} {vs:List Value} {ds:List (DataW H)} {ps:List MemPlace},(∀t∈ts,P.readableRec t=true/\t<P.types.size)->DataW.TrodAll enc P W 0 (fun _=>true) true ts vs ds ps->(∀x∈ps,x.block<W.heap.size)->∀sp:Nat->Bool,(∀x∈ps,sp x.block=true)->DataW.TrodAll enc P W' 0 sp true ts vs ds ps|[],vs,ds,ps,_,h,_,sp,_=>by obtain⟨rfl,rfl,rfl⟩:=trodAll_nil h;exact trodAll_mk0|t::ts,vs,ds,ps,hr,h,hlt,sp,hsp=>by obtain⟨v,vs',d,ds',p,q,rfl,rfl,rfl,h0,h1⟩:=trodAll_cons h;refine trodAll_cons_mk ?_ (Zl7 hl hb (fun u hu=>hr u (by simp[hu])) h1 (fun x hx=>hlt x (by simp[hx])) sp (fun x hx=>hsp x (by simp[hx])));exact WideElems.Trod_stays hl (hr t (by simp)).1 (hr t (by simp)).2 h0 (fun x hx=>hb.same (hlt x (by simp[hx]))) (fun x hx=>hsp x (by simp[hx]))
end
section
variable {H:Type} {enc:TypeId×Value->H} {P:Program} {w:World} {base:Nat} {spare:Nat->Bool} {held:Bool}
end
theorem Zs4(h:a.spot=none)(n:Nat):a.add n=⟨a.block,a.off+n,none⟩:=by
 obtain⟨b,o,s⟩:=a;dsimp only at h;subst h;unfold Addr.add;split;·rename_i e;subst e;rfl
 ·rfl
theorem Zs5{W:World} {v:Value} (h:W.cell? a=some v):a.spot=none/\a.block<W.heap.size:=by
 unfold World.cell? at h;split at h;·rename_i c t f e;refine⟨?_,(Zuo.1 e).1⟩;cases hs:a.spot with
  |none=>rfl|some x=>rw[hs]at h;simp at h
 ·cases h
theorem Zl8{α:Type} {sz:Nat} {cs:α->List Value} {Q:α->Prop} {W:World} {a:Addr} (hsz:∀x,(cs x).length=sz)(h0:0<sz):∀len,(∀i,i<len->∃x,Q x/\∀j v,(cs x)[j]?=some v->W.cell? (a.add (i*sz+j))=some v)->∃l:List α,l.length=len/\At sz cs W (some a) l/\∀x∈l,Q x
 |0,_=>⟨[],rfl,fun k x hx=>by simp at hx,fun x hx=>by simp at hx⟩|n+1,h=>by
  obtain⟨l,hl,hat,hq⟩:=Zl8 hsz h0 n (fun i hi=>h i (by omega));obtain⟨x,hx,hc⟩:=h n (by omega);refine⟨l++[x],by simp[hl],?_,?_⟩
  ·intro k y hy;by_cases hk:k<n;·rw[ZvH (by omega)]at hy;exact hat k y hy
   ·have hk2:k=n:=by have:=(ZvO.1 hy).1;simp[hl]at this;omega
    subst hk2;rw[ZvI (by omega),hl,Nat.sub_self]at hy;simp only[ZvK,Zxi]at hy;subst hy;obtain⟨z,_,hz⟩:=h 0 (by omega);obtain⟨v,hv⟩:∃v,(cs z)[0]?=some v:=⟨(cs z)[0]'(by rw[hsz];omega),ZvL _⟩;have hz0:=hz 0 v hv;rw[Zxb,ZwK]at hz0;have e:a.add 0=a:=by unfold Addr.add;rw[if_pos rfl]
    rw[e]at hz0;obtain⟨hs,hb⟩:=Zs5 hz0;refine⟨a.block,a.off,?_,hb,?_⟩;·obtain⟨b,o,s⟩:=a;dsimp only at hs;subst hs;rfl
    ·intro j v hv;have:=hc j v hv;rw[Zs4 hs]at this;rw[Nat.add_assoc];exact this
  ·intro y hy;rcases Zwf.1 hy with hy|hy;·exact hq y hy
   ·simp at hy;subst hy;exact hx
section
variable {H:Type} {enc:TypeId×Value->H} {w:World} {spare:Nat->Bool} {held:Bool}
end
end Go.Proofs
