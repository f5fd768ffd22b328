import Derived.Test.YtjfdjjekonkgjaaDt
import Derived.Test.YtjfdjjekonkgjaaNv
set_option linter.unusedSimpArgs false
set_option linter.unusedVariables false
namespace Go.Proofs
open Go.RowKit

def modV (n k : Int) : Int := if n.tmod k < 0 then n.tmod k + k else n.tmod k
theorem modV_bd (n k : Int) (hk : 0 < k) : 0 ≤ modV n k ∧ modV n k < k := by
  unfold modV
  have h1 := Int.tmod_lt_of_pos n hk
  have h2 := Int.lt_tmod_of_pos n hk
  split <;> omega
theorem mod_any (n k : Int) (w : World) (hk : 0 < k) (hk2 : k ≤ 1000000000000000000) :
    Calls Try.prog 47 #[.int .i64 n, .int .i64 k] w fun e w' => e = .returned (.int .i64 (modV n k)) ∧ w = w' := by
  have h1 := Int.tmod_lt_of_pos n hk
  have h2 := Int.lt_tmod_of_pos n hk
  unfold modV
  have hkn : k ≠ 0 := by omega
  have hkb : (k == 0) = false := by simpa using hkn
  by_cases h : n.tmod k < 0
  · rw [if_pos h]
    go_enter Try.func47, Try.ntmps47
    go_wp2
    go_ret
    exact ⟨rfl, rfl⟩
  · rw [if_neg h]
    go_enter Try.func47, Try.ntmps47
    go_wp2
    go_ret
    exact ⟨rfl, rfl⟩

/-- What the law asks of the dips of a volume. -/
theorem dips_of {bung vol dip : Int} {ss : List St} (hR : RightC bung ss) (hd : 0 ≤ dip) (hd2 : dip ≤ 2 * bung) (h1 : (toV bung dip ss).1 ≤ vol) (h2 : vol ≤ (toV bung dip ss).2) (hv : vol ≤ 100000) :
    dipV bung ss vol = ((dLo bung ss vol, dHi bung ss vol), 0) ∧ 0 ≤ dLo bung ss vol ∧ dLo bung ss vol ≤ dip ∧ dip ≤ dHi bung ss vol ∧ dHi bung ss vol ≤ 2 * bung ∧
      ∀ at_ : Int, 0 ≤ at_ → at_ ≤ 2 * bung → within vol (toV bung at_ ss).1 (toV bung at_ ss).2 = (decide (dLo bung ss vol ≤ at_) && decide (at_ ≤ dHi bung ss vol)) := by
  have hb := hR.b
  have f1 := fst_is (pLo_up (vol := vol) hR) (2 * bung + 1).toNat
  have f2 := fst_is (pHi_up (vol := vol) hR) (2 * bung + 1).toNat
  have he := (toV_ends (dip := dip) hR)
  obtain ⟨n, hn⟩ : ∃ n : Nat, (n : Int) = dip := ⟨dip.toNat, by omega⟩
  unfold dipV
  rw [if_pos (by unfold within; simp; omega)]
  unfold dHi dLo
  generalize fst (pLo bung ss vol) (2 * bung + 1).toNat = L at *
  generalize fst (pHi bung ss vol) (2 * bung + 1).toNat = H at *
  obtain ⟨a1, a2, a3⟩ := f1
  obtain ⟨b1, b2, b3⟩ := f2
  have hL : L ≤ n := by
    rcases Nat.lt_or_ge n L with h | h
    · have := a2 n h
      unfold pLo at this
      rw [hn] at this
      simp at this
      omega
    · exact h
  have hH : n < H := by
    rcases Nat.lt_or_ge n H with h | h
    · exact h
    · have := b3 n h (by omega)
      unfold pHi at this
      rw [hn] at this
      simp at this
      omega
  refine ⟨by rw [if_neg (by omega)], by omega, by omega, by omega, by omega, fun at_ h0 h3 => ?_⟩
  obtain ⟨t, ht⟩ : ∃ t : Nat, (t : Int) = at_ := ⟨at_.toNat, by omega⟩
  subst ht
  have p1 : (vol ≤ (toV bung t ss).2) ↔ L ≤ t := by
    constructor
    · intro h
      rcases Nat.lt_or_ge t L with h' | h'
      · have := a2 t h'
        unfold pLo at this
        simp at this
        omega
      · exact h'
    · intro h
      have := a3 t h (by omega)
      unfold pLo at this
      simpa using this
  have p2 : ((toV bung t ss).1 ≤ vol) ↔ t < H := by
    constructor
    · intro h
      rcases Nat.lt_or_ge t H with h' | h'
      · exact h'
      · have := b3 t h' (by omega)
        unfold pHi at this
        simp at this
        omega
    · intro h
      have := b2 t h
      unfold pHi at this
      simp at this
      omega
  unfold within
  rw [Bool.eq_iff_iff]
  simp only [Bool.and_eq_true, decide_eq_true_eq]
  constructor
  · rintro ⟨x, y⟩
    have := p1.1 y
    have := p2.1 x
    omega
  · rintro ⟨x, y⟩
    exact ⟨p2.2 (by omega), p1.2 (by omega)⟩
end Go.Proofs
