import Derived.Test.YtmnjoamkaapjcaaGreatMg22
import Derived.Test.YtmnjoamkaapjcaaGreatMg32
import Derived.Laws.AppendOwnNone
import Derived.Test.YtmnjoamkaapjcaaGreatMg21
set_option linter.unusedSimpArgs false
set_option linter.unusedVariables false
namespace Go.Proofs
open Go.RowKit

theorem strip_more (c : Int) (i : Nat) (hc : 0 ≤ c) (hc2 : c ≤ 1000) (h : -c + (i : Int) < c) : (strip c i).1 ≤ (strip c i).2 ∧ 0 ≤ (strip c i).1 ∧ (strip c i).1 ≤ 2 * c ∧ 0 ≤ (strip c i).2 ∧ (strip c i).2 ≤ 2 * c := by
  have key : ∀ y, -c ≤ y → y ≤ c → 0 ≤ wLo c y ∧ wLo c y ≤ wHi c y ∧ wHi c y ≤ 2 * c := fun y h1 h2 => by
    have hb := wLo_bd c y hc hc2 h1 h2
    refine ⟨hb.1, hb.2.2.1, ?_⟩
    have hq := wq_bd c y hc hc2 h1 h2
    unfold wHi
    refine up_le (rt_is _ hq.1 (by omega)) (by omega) ?_
    unfold wq
    have hy : 0 ≤ y * y := by
      rcases Int.le_total 0 y with h | h
      · exact Int.mul_nonneg h h
      · have e : y * y = (-y) * (-y) := by rw [Int.neg_mul_neg]
        rw [e]; exact Int.mul_nonneg (by omega) (by omega)
    have e : 2 * c * (2 * c) = 4 * (c * c) := by rw [show (2 * c * (2 * c)) = 2 * (c * (2 * c)) by rw [Int.mul_assoc], show c * (2 * c) = 2 * (c * c) by rw [← Int.mul_assoc, Int.mul_comm c 2, Int.mul_assoc]]; omega
    omega
  have a := key (-c + i) (by omega) (by omega)
  have b := key (-c + i + 1) (by omega) (by omega)
  unfold strip
  dsimp only
  omega
theorem sum_more (c : Int) (hc : 0 ≤ c) (hc2 : c ≤ 1000) : ∀ k : Nat, -c + (k : Int) ≤ c → (sumA (strips c k)).1 ≤ (sumA (strips c k)).2
  | 0, _ => by simp [strips, sumA]
  | k + 1, h => by
    have ih := sum_more c hc hc2 k (by omega)
    have := strip_more c k hc hc2 (by omega)
    rw [strips_succ, sumA_snoc]
    dsimp only
    omega
theorem area_more (c lv : Int) (hc : 0 ≤ c) (hc2 : c ≤ 800) (h1 : -c ≤ lv) (h2 : lv ≤ c) : (areaOf c lv).1 ≤ (areaOf c lv).2 ∧ 0 ≤ (areaOf c lv).1 ∧ (areaOf c lv).1 ≤ 4000000 ∧ 0 ≤ (areaOf c lv).2 ∧ (areaOf c lv).2 ≤ 4000000 := by
  obtain ⟨n, hn⟩ : ∃ n : Nat, (n : Int) = lv + c := ⟨(lv + c).toNat, by omega⟩
  have hV : areaOf c lv = sumA (strips c n) := by
    unfold areaOf
    rw [show (min lv c + c).toNat = n by omega]
  rw [hV]
  have a := sum_more c hc (by omega) n (by omega)
  have b := sumA_bd c hc (by omega) n (by omega)
  omega
theorem area_next (c lv : Int) (hc : 0 ≤ c) (hc2 : c ≤ 800) (h1 : -c ≤ lv) (h2 : lv < c) : within ((areaOf c (lv + 1)).1 - (areaOf c lv).1) 0 (2 * c) = true ∧ within ((areaOf c (lv + 1)).2 - (areaOf c lv).2) 0 (2 * c) = true := by
  obtain ⟨n, hn⟩ : ∃ n : Nat, (n : Int) = lv + c := ⟨(lv + c).toNat, by omega⟩
  have hV : areaOf c lv = sumA (strips c n) := by
    unfold areaOf
    rw [show (min lv c + c).toNat = n by omega]
  have hV2 : areaOf c (lv + 1) = sumA (strips c (n + 1)) := by
    unfold areaOf
    rw [show (min (lv + 1) c + c).toNat = n + 1 by omega]
  have a := strip_more c n hc (by omega) (by omega)
  rw [hV, hV2, strips_succ, sumA_snoc]
  unfold within
  simp only [decide_eq_true_eq, Bool.and_eq_true]
  omega

end Go.Proofs

set_option linter.unusedSimpArgs false
set_option linter.unusedVariables false
namespace Go.Proofs
open Go.RowKit

def smallB (s n : Nat) (bung : Int) : Bool := decide (s ≤ 20) && (decide (n ≤ 4) || (decide (12 < n) && decide (n ≤ 14))) && (decide (bung ≤ 60) || decide (800 < bung))
theorem areaOf_clip (c lv : Int) (hc : 0 ≤ c) : areaOf c (max (-c) (min c lv)) = areaOf c lv := by
  unfold areaOf
  congr 2
  omega
theorem flat_inv {α β : Type} (cs : α → List β) (sz : Nat) (hsz : ∀ x, (cs x).length = sz) : ∀ (l : List α) (j : Nat) (v : β), (l.flatMap cs)[j]? = some v → ∃ k r x, l[k]? = some x ∧ (cs x)[r]? = some v ∧ j = k * sz + r
  | [], j, v, h => by simp at h
  | a :: l, j, v, h => by
    rw [List.flatMap_cons] at h
    by_cases hj : j < sz
    · rw [List.getElem?_append_left (by rw [hsz]; exact hj)] at h
      exact ⟨0, j, a, rfl, h, by omega⟩
    · rw [List.getElem?_append_right (by rw [hsz]; omega), hsz] at h
      obtain ⟨k, r, x, h1, h2, h3⟩ := flat_inv cs sz hsz l _ v h
      exact ⟨k + 1, r, x, h1, h2, by rw [Nat.add_mul]; omega⟩
theorem flat_len {α β : Type} (cs : α → List β) (sz : Nat) (hsz : ∀ x, (cs x).length = sz) : ∀ (l : List α), (l.flatMap cs).length = l.length * sz
  | [] => by simp
  | a :: l => by rw [List.flatMap_cons, List.length_append, hsz, flat_len cs sz hsz l, List.length_cons, Nat.add_mul]; omega
/-- What lies at a slice, cell by cell. -/
theorem at_news {α : Type} {sz : Nat} {cs : α → List Value} {w : World} {a : Addr} {l : List α} (hsz : ∀ x, (cs x).length = sz) (h : At sz cs w (some a) l) :
    ∀ j u, (l.flatMap cs)[j]? = some u → w.cell? (a.add j) = some u := by
  intro j u hu
  obtain ⟨k, r, x, h1, h2, rfl⟩ := flat_inv cs sz hsz l j u hu
  obtain ⟨b, o, hA, -, hc⟩ := h k x h1
  simp only [Option.some.injEq] at hA
  subst hA
  rw [addr_add rfl]
  have := hc r u h2
  rw [Nat.add_assoc] at this
  exact this
theorem At.setCell {α : Type} {sz : Nat} {cs : α → List Value} {w : World} {A : Option Addr} {l : List α} (h : At sz cs w A l) {p : Addr} (u : Value) (hp : ∀ x, A = some x → p.block ≠ x.block) : At sz cs (w.setCell p u) A l := by
  intro k x hx
  obtain ⟨b, o, hA, hb, hc⟩ := h k x hx
  refine ⟨b, o, hA, by simpa using hb, fun j v hv => ?_⟩
  have hne := hp _ hA
  rw [World.cell?_of_block (w := w) (a := ⟨b, o + k * sz + j, none⟩) (Below.heap_setCell w p u b (fun e => hne e.symm))]
  exact hc j v hv
theorem heap_new (W : World) (o : Obj) (n : Nat) (h : n = W.heap.size) : (W.alloc o).heap[n]? = some o := by
  subst h
  show (W.heap.push o)[W.heap.size]? = _
  simp
theorem info44 : (Tryz.prog.info? 103).map (fun i => (i.zero, i.size, i.bytes)) = some (some (.agg #[.int .i64 0, .int .i64 0, .int .i64 0]), 3, 24) := by kernel_rfl
end Go.Proofs
