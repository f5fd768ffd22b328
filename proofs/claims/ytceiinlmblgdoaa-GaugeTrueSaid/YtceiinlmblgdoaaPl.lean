import Derived.Test.YtceiinlmblgdoaaZ
import Derived.Test.YtceiinlmblgdoaaZa
set_option linter.unusedSimpArgs false
set_option linter.unusedVariables false
namespace Go.Proofs
open Go.RowKit

/-! A contradiction is one of two: the plain law. -/
def mvOf (cask : ByteArray) (m : Mv) : Int := (if eqS m.t cask then m.v else 0) - (if eqS m.f cask then m.v else 0)
theorem netStep_add (cask : ByteArray) (lo hi s : Int) (m : Mv) : netStep cask lo hi s m = s + (if m.d ≤ lo then 0 else if hi < m.d then 0 else mvOf cask m) := by
  unfold netStep mvOf
  repeat' split
  all_goals omega
theorem net_from (cask : ByteArray) (lo hi : Int) : ∀ (l : List Mv) (s : Int), l.foldl (netStep cask lo hi) s = s + l.foldl (netStep cask lo hi) 0
  | [], s => by simp
  | m :: l, s => by
    rw [List.foldl_cons, List.foldl_cons, net_from cask lo hi l (netStep cask lo hi s m), net_from cask lo hi l (netStep cask lo hi 0 m), netStep_add cask lo hi s, netStep_add cask lo hi 0]
    omega
theorem net_split (cask : ByteArray) {a b d : Int} (h1 : a ≤ b) (h2 : b ≤ d) : ∀ (l : List Mv), netL l cask a d = netL l cask a b + netL l cask b d
  | [] => by simp [netL]
  | m :: l => by
    have ih := net_split cask h1 h2 l
    unfold netL at *
    rw [List.foldl_cons, List.foldl_cons, List.foldl_cons, net_from cask a d l, net_from cask a b l, net_from cask b d l, ih, netStep_add, netStep_add, netStep_add]
    repeat' split
    all_goals omega
theorem mul_split (l a b d : Int) : l * (d - a) = l * (b - a) + l * (d - b) := by rw [← Int.mul_add]; congr 1; omega
theorem mul_up {l0 l1 s : Int} (h : l0 ≤ l1) (hs : 0 ≤ s) : l0 * s ≤ l1 * s := Int.mul_le_mul_of_nonneg_right h hs
/-- Two gaugings that agree on the day of the later one agree on every day. -/
theorem agree_days {l0 l1 : Int} {ms : List Mv} {x y : Rd} {t : Int} (hl : l0 ≤ l1) (hc : x.c = y.c) (hd : x.d ≤ y.d) (h1 : allowsLo l0 l1 ms x y.d ≤ 1000 * y.hi) (h2 : 1000 * y.lo ≤ allowsHi l0 l1 ms x y.d) :
    allowsLo l0 l1 ms x t ≤ allowsHi l0 l1 ms y t ∧ allowsLo l0 l1 ms y t ≤ allowsHi l0 l1 ms x t := by
  obtain ⟨xc, xd, xl, xh⟩ := x
  obtain ⟨yc, yd, yl, yh⟩ := y
  dsimp only at hc hd h1 h2
  subst hc
  unfold allowsLo allowsHi at *
  dsimp only at *
  rw [if_pos (by omega)] at h1 h2
  by_cases ha : yd ≤ t
  · have n1 := net_split xc hd ha ms
    have m0 := mul_split l0 xd yd t
    have m1 := mul_split l1 xd yd t
    have u1 := mul_up (s := t - yd) hl (by omega)
    have u2 := mul_up (s := yd - xd) hl (by omega)
    rw [if_pos (by omega), if_pos (by omega), if_pos (by omega), if_pos (by omega), n1, m0, m1]
    omega
  · by_cases hb : xd ≤ t
    · have n1 := net_split xc hb (by omega : t ≤ yd) ms
      have m0 := mul_split l0 xd t yd
      have m1 := mul_split l1 xd t yd
      rw [n1, m0] at h2
      rw [n1, m1] at h1
      have p1 : 0 ≤ t - xd := by omega
      have p2 : ¬ 0 ≤ t - yd := by omega
      simp only [if_pos p1, if_neg p2]
      omega
    · have n1 := net_split xc (by omega : t ≤ xd) hd ms
      have m0 := mul_split l0 t xd yd
      have m1 := mul_split l1 t xd yd
      have u1 := mul_up (s := xd - t) hl (by omega)
      have u2 := mul_up (s := yd - xd) hl (by omega)
      rw [if_neg (by omega), if_neg (by omega), if_neg (by omega), if_neg (by omega), n1, m0, m1]
      omega
theorem own_ends {l0 l1 : Int} {ms : List Mv} {x : Rd} {t : Int} (hl : l0 ≤ l1) (h : x.lo ≤ x.hi) : allowsLo l0 l1 ms x t ≤ allowsHi l0 l1 ms x t := by
  unfold allowsLo allowsHi
  split
  · have u := mul_up (s := t - x.d) hl (by omega); omega
  · have u := mul_up (s := x.d - t) hl (by omega); omega
theorem sorted_of {rs : List Rd} (h : ∀ (i : Nat) (x y : Rd), rs[i]? = some x → rs[i + 1]? = some y → x.d ≤ y.d) : ∀ (k i : Nat) (x y : Rd), rs[i]? = some x → rs[i + k]? = some y → x.d ≤ y.d
  | 0, i, x, y, hx, hy => by rw [Nat.add_zero, hx] at hy; simp only [Option.some.injEq] at hy; subst hy; exact Int.le_refl _
  | k + 1, i, x, y, hx, hy => by
    have hlt : i + (k + 1) < rs.length := (List.getElem?_eq_some_iff.1 hy).1
    obtain ⟨z, hz⟩ : ∃ z, rs[i + k]? = some z := ⟨_, List.getElem?_eq_getElem (by omega)⟩
    have a := sorted_of h k i x z hx hz
    have b := h (i + k) z y hz (by rw [Nat.add_assoc]; exact hy)
    omega
theorem eqS_eq {a b : ByteArray} (h : eqS a b = true) : a = b := by
  rw [eqS_data] at h
  have h1 : a.data.toList = b.data.toList := by simpa using h
  have h2 : a.data = b.data := Array.toList_inj.1 h1
  cases a; cases b
  simp only at h2
  rw [h2]
theorem eqS_refl (a : ByteArray) : eqS a a = true := by unfold eqS; simp
/-- Any two gaugings of one cask that has no contradiction agree on every day. -/
theorem agree_all_days {l0 l1 : Int} {rs : List Rd} {ms : List Mv} {cask : ByteArray} {t : Int} (h : (checkB l0 l1 rs ms).2 = 0) (hcl : clashed rs cask (allPairs l0 l1 rs ms) = false) {x y : Rd} (hx : x ∈ rs) (hy : y ∈ rs) (ex : eqS x.c cask = true) (ey : eqS y.c cask = true) :
    allowsLo l0 l1 ms x t ≤ allowsHi l0 l1 ms y t := by
  obtain ⟨hb, hr, -⟩ := checkB_zero h
  obtain ⟨-, -, hl, -, -⟩ := bookE_zero hb
  have hup := sorted_of (fun i x y hx hy => datedE_up (day := Rd.d) _ _ _ hr i x y hx hy)
  have hno : ∀ (i j : Nat) (x y : Rd), i < j → rs[i]? = some x → rs[j]? = some y → eqS x.c cask = true → contra l0 l1 ms x y = false := by
    intro i j x y hij hx hy hc
    cases hcc : contra l0 l1 ms x y with
    | false => rfl
    | true =>
      exfalso
      have hi : i < rs.length := (List.getElem?_eq_some_iff.1 hx).1
      have hj : j < rs.length := (List.getElem?_eq_some_iff.1 hy).1
      have hm : (i, j) ∈ allPairs l0 l1 rs ms := by
        unfold allPairs pout pin
        simp only [List.mem_flatMap, List.mem_map, List.mem_filter, List.mem_range]
        refine ⟨i, hi, j, ⟨hj, ?_⟩, rfl⟩
        unfold contraAt
        rw [hx, hy]
        simp [hij, hcc]
      unfold clashed at hcl
      rw [List.any_eq_false] at hcl
      have := hcl (i, j) hm
      dsimp only at this
      rw [hx] at this
      exact this hc
  have key : ∀ (i j : Nat) (x y : Rd), i < j → rs[i]? = some x → rs[j]? = some y → eqS x.c cask = true → eqS y.c cask = true → allowsLo l0 l1 ms x t ≤ allowsHi l0 l1 ms y t ∧ allowsLo l0 l1 ms y t ≤ allowsHi l0 l1 ms x t := by
    intro i j x y hij hx hy e1 e2
    have hc : x.c = y.c := (eqS_eq e1).trans (eqS_eq e2).symm
    have hn := hno i j x y hij hx hy e1
    unfold contra at hn
    rw [hc, eqS_refl, Bool.true_and] at hn
    simp only [Bool.or_eq_false_iff, decide_eq_false_iff_not] at hn
    exact agree_days hl hc (hup (j - i) i x y hx (by rw [show i + (j - i) = j by omega]; exact hy)) (by omega) (by omega)
  obtain ⟨i, hi⟩ := List.getElem?_of_mem hx
  obtain ⟨j, hj⟩ := List.getElem?_of_mem hy
  rcases Nat.lt_trichotomy i j with hij | hij | hij
  · exact (key i j x y hij hi hj ex ey).1
  · subst hij
    rw [hi] at hj
    simp only [Option.some.injEq] at hj
    subst hj
    refine own_ends hl ?_
    have he := datedE_zero _ _ _ hr x hx
    unfold rdErr gaugingE at he
    have := unl_zero (by decide) (firstE3_zero he).2.2
    simpa using this
  · exact (key j i y x hij hj hi ey ex).2
theorem meet_of {l0 l1 : Int} {ms : List Mv} {cask : ByteArray} {day : Int} {all : List Rd} : ∀ (l : List Rd) (o : Option (Int × Int)), (∀ x ∈ l, x ∈ all) →
    (∀ a b, o = some (a, b) → (∃ x ∈ all, eqS x.c cask = true ∧ a = allowsLo l0 l1 ms x day) ∧ ∃ y ∈ all, eqS y.c cask = true ∧ b = allowsHi l0 l1 ms y day) →
    ∀ a b, l.foldl (meet l0 l1 ms cask day) o = some (a, b) → (∃ x ∈ all, eqS x.c cask = true ∧ a = allowsLo l0 l1 ms x day) ∧ ∃ y ∈ all, eqS y.c cask = true ∧ b = allowsHi l0 l1 ms y day
  | [], o, _, ho, a, b, h => ho a b h
  | x :: l, o, hl, ho, a, b, h => by
    rw [List.foldl_cons] at h
    refine meet_of l _ (fun y hy => hl y (List.mem_cons_of_mem _ hy)) ?_ a b h
    intro a' b' hab
    have hxm := hl x (List.mem_cons_self ..)
    unfold meet at hab
    split at hab
    · rename_i hc
      cases o with
      | none =>
        simp only [Option.some.injEq, Prod.mk.injEq] at hab
        exact ⟨⟨x, hxm, hc, hab.1.symm⟩, ⟨x, hxm, hc, hab.2.symm⟩⟩
      | some p =>
        obtain ⟨p1, p2⟩ := p
        simp only [Option.some.injEq, Prod.mk.injEq] at hab
        obtain ⟨⟨u, hu, eu, au⟩, ⟨v, hv, ev, bv⟩⟩ := ho p1 p2 rfl
        refine ⟨?_, ?_⟩
        · by_cases hm : allowsLo l0 l1 ms x day ≤ p1
          · exact ⟨u, hu, eu, by omega⟩
          · exact ⟨x, hxm, hc, by omega⟩
        · by_cases hm : allowsHi l0 l1 ms x day ≤ p2
          · exact ⟨x, hxm, hc, by omega⟩
          · exact ⟨v, hv, ev, by omega⟩
    · exact ho a' b' hab
theorem meet_some {l0 l1 : Int} {ms : List Mv} {cask : ByteArray} {day : Int} : ∀ (l : List Rd) (o : Option (Int × Int)), (o ≠ none ∨ ∃ x ∈ l, eqS x.c cask = true) → l.foldl (meet l0 l1 ms cask day) o ≠ none
  | [], o, h => by
    rcases h with h | ⟨x, hx, -⟩
    · exact h
    · cases hx
  | x :: l, o, h => by
    rw [List.foldl_cons]
    refine meet_some l _ ?_
    rcases h with h | ⟨y, hy, he⟩
    · refine .inl ?_
      unfold meet
      split
      · cases o with
        | none => exact (h rfl).elim
        | some p => simp
      · exact h
    · rcases List.mem_cons.1 hy with rfl | hy
      · refine .inl ?_
        unfold meet
        rw [if_pos he]
        cases o <;> simp
      · exact .inr ⟨y, hy, he⟩
/-- What is told of a cask of a gauging, on a right day. -/
theorem just_two {l0 l1 : Int} {rs : List Rd} {ms : List Mv} {x : Rd} {day : Int} (h : (checkB l0 l1 rs ms).2 = 0) (hx : x ∈ rs) (hd : within day 0 100000 = true) :
    (clashed rs x.c (allPairs l0 l1 rs ms) = true → volAtV l0 l1 rs ms x.c day = ((0, 0), 13)) ∧
    (clashed rs x.c (allPairs l0 l1 rs ms) = false → ∃ a b, volAtV l0 l1 rs ms x.c day = ((a, b), 0) ∧ a ≤ b) := by
  have hz : volAtE l0 l1 rs ms x.c day = 0 := by
    obtain ⟨-, hr, -⟩ := checkB_zero h
    have he := datedE_zero _ _ _ hr x hx
    unfold rdErr gaugingE at he
    have hn := unl_zero (by decide) (firstE3_zero he).1
    unfold volAtE
    rw [h, hn, hd]
    rfl
  unfold volAtV
  rw [if_pos hz]
  unfold atV
  refine ⟨fun hc => by rw [if_pos hc], fun hc => ?_⟩
  rw [if_neg (by rw [hc]; decide)]
  cases hf : rs.foldl (meet l0 l1 ms x.c day) none with
  | none => exact (meet_some rs none (.inr ⟨x, hx, eqS_refl _⟩) hf).elim
  | some p =>
    obtain ⟨a, b⟩ := p
    obtain ⟨⟨u, hu, eu, au⟩, ⟨v, hv, ev, bv⟩⟩ := meet_of (all := rs) rs none (fun _ h => h) (fun a b h => by cases h) a b hf
    have := agree_all_days (t := day) h hc hu hv eu ev
    refine ⟨_, _, rfl, ?_⟩
    rw [← au, ← bv] at this
    omega
end Go.Proofs
