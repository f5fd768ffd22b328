import Derived.Test.YthmhdmfahlkpmaaGreatDoorMg8
import Derived.Lib.SmallJoins
set_option linter.all false
set_option maxRecDepth 100000
set_option maxHeartbeats 16000000
namespace Go.Proofs
open Go.RowKit Go.WideShapes Go.ChangeShapes
section
variable {H:Type} {enc:TypeId×Value->H} {P:aA}
def Dd{f:Func} {s:ChangeSpec} {d o e n:Bool} {W u:World} {a:bJ} {v:Value} {x y:List (DataW H)} {c C w:List MemPlace} (D:DataW.Whole enc P f.params.toList s.vars d W a.toList x y c)(m:∀(b:Nat) (q:bR) (G:Bool),DataW.TrodAll enc P u b q G f.resultTypes.toList (v.resultList f.resultTypes.size) (s.fn H (x++y)).results [])(g:∀q:Nat->Bool,(∀p∈c,q p.block=true)->DataW.TrodAll enc P u 0 q true f.params.toList a.toList (s.fn H (x++y)).args C)(i:∀q:Nat->Bool,(∀p∈c,q p.block=true)->DataW.TrodVars enc P u q s.vars (s.fn H (x++y)).vars w)(k:c=C++w)(K:QB W u)(E:∀(j:Nat)(t:aN)(r:Value),f.resultTypes[j]?=some t->(v.resultList f.resultTypes.size)[j]?=some r->Value.okWide P u .any 0 t r):s.post enc P f d o e n W a v u:=by
 have A:∀p∈c,p.block<W.heap.size:=fun p h=>D.lt p h;have l:∀p∈c,(fun b=>decide (b<W.heap.size)) p.block=true:=fun p h=>by simpa using A p h
 refine⟨x,y,c,[],C,w,D,m _ _ _,g _ l,i _ l,World.keptBut_mono (fun p h=>⟨h,?_⟩) (K.frame (·∈c)),fun _=>?_⟩;·rw[k,C1]at h;exact Or.inr h
 .obtain⟨_,_,_,_,_,J,I⟩:=D;refine⟨E,_,_,([]++C)++w,⟨[]++C,w,trodAll_append (g _ (fun _ _=>rfl)) (m _ _ _),i _ (fun _ _=>rfl),rfl,?_,?_⟩,?_⟩
  .intro b B h;have z:MemPlace.cell b B∈c:=by rw[k];simpa using h
   rw[K.frozen (A _ z)];exact J b B z
  .intro F;have:=I F;rw[k]at this;simpa using this
  .intro p h _;rw[k];simpa using h
end
end Go.Proofs
namespace Go.Proofs
open Go.RowKit
def up(n r:Int):Int:=if r*r=n then r else r+1
attribute [local go_sem] Oper.semAt_some def H7(n:Int):Nat->Int->Int|0,r=>r|t+1,r=>if (r+2^t)*(r+2^t)<=n then H7 n t (r+2^t)else H7 n t r
def rt(n:Int):Int:=H7 n 31 0
end Go.Proofs
namespace Go.Proofs
open Go.RowKit
structure St where
 at_:Int
 inn:Int
 out:Int
end Go.Proofs
namespace Go.Proofs
open Go.RowKit Go.WideShapes Go.ChangeShapes Go.Deep Go.Joins
variable {a:Addr}
section
variable {H:Type} {enc:TypeId×Value->H} {P:aA}
def LL(g:laidOutB P=true) {W f:World} (n:QB W f):∀{ts:List TypeId} {vs:hD} {e:List (DataW H)} {ps:List MemPlace},(∀t∈ts,P.readableRec t=true/\t<P.types.size)->DataW.TrodAll enc P W 0 (fun _=>true) true ts vs e ps->(∀x∈ps,x.block<W.heap.size)->∀c:Nat->Bool,(∀x∈ps,c x.block=true)->DataW.TrodAll enc P f 0 c true ts vs e ps|[],vs,e,ps,_,h,_,c,_=>by obtain⟨rfl,rfl,rfl⟩:=trodAll_nil h;exact trodAll_mk0|t::ts,vs,e,ps,hr,h,hlt,c,hsp=>by obtain⟨v,m,d,i,p,q,rfl,rfl,rfl,j,k⟩:=trodAll_cons h;refine trodAll_cons_mk ?_ (LL g n (fun u l=>hr u (by simp[l])) k (fun x b=>hlt x (by simp[b])) c (fun x b=>hsp x (by simp[b])));exact WideElems.Trod_stays g (hr t Qd).1 (hr t Qd).2 j (fun x b=>n.same (hlt x (by simp[b]))) (fun x b=>hsp x (by simp[b]))
end
section
variable {H:Type} {enc:TypeId×Value->H} {P:aA} {w:World} {base:Nat} {spare:bR} {held:Bool}
end
def De(h:a.spot=none)(n:Nat):a.add n=⟨a.block,a.off+n,none⟩:=by
 obtain⟨b,o,s⟩:=a;dsimp only at h;subst h;unfold Addr.add;split;·rename_i e;subst e;rfl
 .rfl
def Df{W:World} {v:Value} (h:W.cell? a=some v):a.spot=none/\a.block<W.heap.size:=by
 unfold World.cell? at h;split at h;·rename_i c t f e;refine⟨?_,(bO.1 e).1⟩;cases b:a.spot with
  |none=>rfl|some x=>rw[b]at h;simp at h
 .cases h
def LM{α:Type} {sz:Nat} {cs:α->List Value} {Q:α->Prop} {W:World} {a:Addr} (f:∀x,(cs x).length=sz)(w:0<sz):∀m,(∀i,i<m->∃x,Q x/\∀j v,(cs x)[j]?=some v->W.cell? (a.add (i*sz+j))=some v)->∃l:List α,l.length=m/\At sz cs W (some a) l/\∀x∈l,Q x
 |0,_=>⟨[],rfl,fun k x g=>by simp at g,fun x g=>by simp at g⟩|n+1,h=>by
  obtain⟨l,r,p,C⟩:=LM f w n (fun i E=>h i Qa);obtain⟨x,g,B⟩:=h n Qa;refine⟨l++[x],by simp[r],?_,?_⟩
  .intro k y c;by_cases F:k<n;·rw[aW Qa]at c;exact p k y c
   .have q:k=n:=by have:=(p1.1 c).1;simp[r]at this;omega
    subst q;rw[bA Qa,r,kW]at c;simp only[B4,M3]at c;subst c;obtain⟨z,_,D⟩:=h 0 Qa;obtain⟨v,u⟩:∃v,(cs z)[0]?=some v:=⟨(cs z)[0]'(by rw[f];omega),h' _⟩;have d:=D 0 v u;rw[gD,w7]at d;have e:a.add 0=a:=by unfold Addr.add;rw[Zde rfl]
    rw[e]at d;obtain⟨t,A⟩:=Df d;refine⟨a.block,a.off,?_,A,?_⟩;·obtain⟨b,o,s⟩:=a;dsimp only at t;subst t;rfl
    .intro j v u;have:=B j v u;rw[De t]at this;rw[iI];exact this
  .intro y c;rcases C1.1 c with c|c;·exact C y c
   .simp at c;subst c;exact g
section
variable {H:Type} {enc:TypeId×Value->H} {w:World} {spare:bR} {held:Bool}
end
end Go.Proofs
