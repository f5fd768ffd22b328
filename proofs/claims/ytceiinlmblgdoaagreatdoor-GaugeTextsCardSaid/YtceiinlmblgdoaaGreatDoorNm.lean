import Derived.Test.YtceiinlmblgdoaaGreatDoorD
import Derived.Test.YtceiinlmblgdoaaGreatDoorTx
set_option linter.unusedSimpArgs false
set_option linter.unusedVariables false
namespace Go.Proofs
open Go.RowKit

/-- The number with a text, and whether there is one. -/
def numV (l : List UInt8) : Int × Bool := match parseN l with
  | some n => (n, true)
  | none => (0, false)
theorem numV_none {l : List UInt8} (h : parseN l = none) : numV l = (0, false) := by unfold numV; rw [h]
theorem numV_some {l : List UInt8} {n : Int} (h : parseN l = some n) : numV l = (n, true) := by unfold numV; rw [h]
theorem parse_bad {l : List UInt8} (h : magL l = [] ∨ 9 < (magL l).length ∨ ((magL l).head? = some 48 ∧ 1 < l.length)) : parseN l = none := by unfold parseN; rw [if_pos h]
theorem parse_nodig {l : List UInt8} {k : Nat} {c : UInt8} (hc : (magL l)[k]? = some c) (hd : isDig c = false) : parseN l = none := by
  unfold parseN
  split
  · rfl
  · rw [if_neg]
    intro h
    rw [List.all_eq_true] at h
    have := h c (List.mem_of_getElem? hc)
    rw [hd] at this
    cases this
theorem parse_dig {l : List UInt8} (h1 : ¬ magL l = []) (h2 : ¬ 9 < (magL l).length) (h3 : ¬ ((magL l).head? = some 48 ∧ 1 < l.length)) (hd : (magL l).all isDig = true) : parseN l = some (if l.head? = some 45 then -(valD 0 (magL l) : Int) else (valD 0 (magL l) : Int)) := by
  unfold parseN
  rw [if_neg (by rintro (h | h | h); exact h1 h; exact h2 h; exact h3 h), if_pos hd]
theorem valD_lt : ∀ (l : List UInt8) (a k : Nat), l.all isDig = true → a < 10 ^ k → valD a l < 10 ^ (k + l.length)
  | [], a, k, _, ha => ha
  | c :: l, a, k, hl, ha => by
    simp only [List.all_cons, Bool.and_eq_true] at hl
    have hc := hl.1
    unfold isDig at hc
    simp only [Bool.and_eq_true, decide_eq_true_eq] at hc
    unfold valD
    rw [List.length_cons, show k + (l.length + 1) = (k + 1) + l.length by omega]
    refine valD_lt l _ _ hl.2 ?_
    rw [Nat.pow_succ]
    omega
theorem valD_small {l : List UInt8} (h : l.all isDig = true) (h9 : l.length ≤ 9) : valD 0 l < 1000000000 := by
  have h1 := valD_lt l 0 0 h (by decide)
  have h2 : 10 ^ (0 + l.length) ≤ 10 ^ 9 := Nat.pow_le_pow_right (by decide) (by omega)
  omega
theorem str_at {s : ByteArray} {k : Nat} (h : k < s.size) : s.data.toList[k]? = some (s[k]'h) := by
  rw [List.getElem?_eq_getElem (by simpa using h)]
  simp
  rfl
theorem drop_at {α : Type} {l : List α} {A k : Nat} {c : α} (h : l[A + k]? = some c) : (l.drop A)[k]? = some c := by rw [List.getElem?_drop]; exact h
set_option maxRecDepth 100000 in
set_option maxHeartbeats 4000000 in
theorem number_any (s : ByteArray) (w : World) (hs : s.size ≤ 9223372036854775807) :
    Calls Tryz.prog 23 #[.string s, .int .i64 9] w fun e w' => e = .returned (.tuple #[.int .i64 (numV s.data.toList).1, .bool (numV s.data.toList).2]) ∧ w = w' := by
  have hlen : Hid (s.data.toList.length = s.size) := by simp [Hid]
  by_cases h0 : s.size = 0
  · have i1 : ¬ 0 < (s.size : Int) := by omega
    have i2 : ((s.size : Int) == 0) = true := by simp [h0]
    have hnil : s.data.toList = [] := List.eq_nil_of_length_eq_zero (by rw [hlen.out]; exact h0)
    have hv := numV_none (l := s.data.toList) (parse_bad (.inl (by rw [hnil]; rfl)))
    rw [hv]
    clear hv h0 hnil hlen
    go_enter Tryz.func23, Tryz.ntmps23
    go_wp2
    refine bodyPost_ret (v := .tuple #[.int .i64 0, .bool false]) ?_ rfl ⟨rfl, rfl⟩
    simp [results, Tryz.results23, go_sem]
  have hp0 : 0 < s.size := by omega
  obtain ⟨l, hl⟩ : ∃ l, s.data.toList = l := ⟨_, rfl⟩
  have hat : Hid (∀ (k : Nat) (h : k < s.size), l[k]? = some (s[k]'h)) := fun k h => by rw [← hl]; exact str_at h
  rw [hl] at hlen ⊢
  clear hl
  obtain ⟨c0, hc0⟩ : ∃ c : UInt8, s[0]'hp0 = c := ⟨_, rfl⟩
  have hh0 : Hid (l.head? = some c0) := by unfold Hid; rw [List.head?_eq_getElem?, hat.out 0 hp0, hc0]
  have i1 : 0 < (s.size : Int) := by omega
  by_cases hm : c0 = 45
  · have i2 : ((c0.toNat : Int) == 45) = true := by rw [hm]; rfl
    have hmg : Hid (magL l = l.drop 1) := by unfold Hid magL; rw [if_pos (by rw [hh0.out, hm]), List.drop_one]
    have hm' := Lib.hid hm
    clear h0 hm
    by_cases e1 : s.size = 1
    · have j1 : ((s.size : Int) == 1) = true := by simp [e1]
      have hv := numV_none (parse_bad (.inl (List.eq_nil_of_length_eq_zero (by rw [hmg.out, List.length_drop, hlen.out]; omega))))
      rw [hv]
      clear hv e1
      go_enter Tryz.func23, Tryz.ntmps23
      go_wp2
      refine bodyPost_ret (v := .tuple #[.int .i64 0, .bool false]) ?_ rfl ⟨rfl, rfl⟩
      simp [results, Tryz.results23, go_sem]
    have j1 : ((s.size : Int) == 1) = false := by rw [beq_eq_false_iff_ne]; omega
    by_cases e2 : 9 < s.size - 1
    · have j2 : 9 < (s.size : Int) - 1 := by omega
      have hv := numV_none (parse_bad (.inr (.inl (by rw [hmg.out, List.length_drop, hlen.out]; exact e2))))
      rw [hv]
      clear hv e1 e2
      go_enter Tryz.func23, Tryz.ntmps23
      go_wp2
      refine bodyPost_ret (v := .tuple #[.int .i64 0, .bool false]) ?_ rfl ⟨rfl, rfl⟩
      simp [results, Tryz.results23, go_sem]
    have j2 : ¬ 9 < (s.size : Int) - 1 := by omega
    have j2b : True := by first | trivial | omega
    have hpA : 1 < s.size := by omega
    obtain ⟨cA, hcA⟩ : ∃ c : UInt8, s[1]'hpA = c := ⟨_, rfl⟩
    skip
    have hhd : Hid ((magL l).head? = some cA) := by
      unfold Hid
      rw [hmg.out, List.head?_drop, hat.out 1 hpA, hcA]
    by_cases e3 : cA = 48 ∧ 1 < s.size
    · have j3 : ((cA.toNat : Int) == 48) = true := by rw [e3.1]; rfl
      have j4 : 1 < (s.size : Int) := by omega
      have hv := numV_none (parse_bad (.inr (.inr ⟨by rw [hhd.out, e3.1], by rw [hlen.out]; exact e3.2⟩)))
      rw [hv]
      clear hv e1 e2 e3
      go_enter Tryz.func23, Tryz.ntmps23
      go_wp2
      refine bodyPost_ret (v := .tuple #[.int .i64 0, .bool false]) ?_ rfl ⟨rfl, rfl⟩
      simp [results, Tryz.results23, go_sem]
    have n1 : Hid (¬ magL l = []) := fun h => by
      have h9 : (magL l).length = 0 := by rw [h]; rfl
      rw [hmg.out, List.length_drop, hlen.out] at h9
      omega
    have n2 : Hid (¬ 9 < (magL l).length) := by unfold Hid; rw [hmg.out, List.length_drop, hlen.out]; exact e2
    have n3 : Hid (¬ ((magL l).head? = some 48 ∧ 1 < l.length)) := by rintro ⟨a, b⟩; rw [hhd.out] at a; simp only [Option.some.injEq] at a; rw [hlen.out] at b; exact e3 ⟨a, b⟩
    have hlo : Hid ((magL l).length = s.size - 1) := by unfold Hid; rw [hmg.out, List.length_drop, hlen.out]
    by_cases e4 : cA = 48
    · exact (e3 ⟨e4, hpA⟩).elim
    · have j3 : ((cA.toNat : Int) == 48) = false := by
        have : cA.toNat ≠ 48 := fun h => e4 (UInt8.toNat_inj.1 h)
        simp; omega
      clear e3 e4 e1 e2
      go_enter Tryz.func23, Tryz.ntmps23
      go_wp2
      go_loop [7, 8] (fun n i => ∃ k : Nat, k + 1 ≤ s.size ∧ i = .int .i64 ((k + 1 : Nat) : Int) ∧ n = .int .i64 (valD 0 ((magL l).take k) : Int) ∧ Hid (((magL l).take k).all isDig = true)) (fun _ i => s.size - (intOf i).toNat)
      case atStart => exact ⟨0, by omega, by rfl, by rfl, by rfl⟩
      case round =>
        obtain ⟨k, hk, rfl, rfl, hok⟩ := hrel
        have hks : k ≤ 9 := by have := n2.out; rw [hlo.out] at this; omega
        have hbd := valD_small hok.out (by rw [List.length_take]; omega)
        obtain ⟨v, hv⟩ : ∃ v, valD 0 ((magL l).take k) = v := ⟨_, rfl⟩
        rw [hv] at hbd ⊢
        have hv' := Lib.hid hv
        clear hv
        by_cases hlt : k + 1 < s.size
        · have hltI : ((k + 1 : Nat) : Int) < (s.size : Int) := by omega
          obtain ⟨c, hc⟩ : ∃ c : UInt8, s[k + 1]'hlt = c := ⟨_, rfl⟩
          have hmk : Hid ((magL l)[k]? = some c) := by
            unfold Hid
            rw [hmg.out]
            exact drop_at (by rw [Nat.add_comm]; rw [hat.out (k + 1) hlt, hc])
          try simp only [Nat.add_zero] at hc
          try simp only [Nat.add_zero] at hltI
          by_cases hd1 : c.toNat < 48
          · have d1 : (c.toNat : Int) < 48 := by omega
            have hn := numV_none (parse_nodig hmk.out (by unfold isDig; simp; omega))
            have hn' := Lib.hid hn
            clear hn
            go_wp2
            refine bodyPost_ret (v := .tuple #[.int .i64 0, .bool false]) ?_ rfl ⟨by rw [hn'.out], rfl⟩
            simp [results, Tryz.results23, go_sem]
          by_cases hd2 : 57 < c.toNat
          · have d1 : ¬ (c.toNat : Int) < 48 := by omega
            have d2 : 57 < (c.toNat : Int) := by omega
            have hn := numV_none (parse_nodig hmk.out (by unfold isDig; simp; omega))
            have hn' := Lib.hid hn
            clear hn
            go_wp2
            refine bodyPost_ret (v := .tuple #[.int .i64 0, .bool false]) ?_ rfl ⟨by rw [hn'.out], rfl⟩
            simp [results, Tryz.results23, go_sem]
          have d1 : ¬ (c.toNat : Int) < 48 := by omega
          have d2 : ¬ 57 < (c.toNat : Int) := by omega
          have d3 : IntKind.u8.wrap ((c.toNat : Int) - 48) = ((c.toNat - 48 : Nat) : Int) := by rw [IntWalk.u8_in _ (by omega)]; omega
          go_wp2
          go_round
          case rel =>
            have ht : (magL l).take (k + 1) = (magL l).take k ++ [c] := by rw [List.take_add_one, hmk.out]; rfl
            refine ⟨k + 1, by omega, by go_num, ?_, ?_⟩
            · rw [ht, valD_snoc, hv'.out]
              all_goals (congr 1 <;> omega)
            · unfold Hid
              rw [ht, List.all_append, hok.out]
              simp [isDig]
              omega
          case measure => simp [intOf]; omega
        · have hkk : k = (magL l).length := by rw [hlo.out]; omega
          have hall : (magL l).all isDig = true := by have := hok.out; rwa [hkk, List.take_length] at this
          have hvv : valD 0 (magL l) = v := by have := hv'.out; rwa [hkk, List.take_length] at this
          have hn := parse_dig n1.out n2.out n3.out hall
          rw [(if_pos (by rw [hh0.out, hm'.out]))] at hn
          have hn' := Lib.hid (numV_some hn)
          rw [hvv] at hn'
          clear hn hvv hall hkk
          go_wp2
          refine bodyPost_ret (v := .tuple #[.int .i64 (-(v : Int)), .bool true]) ?_ rfl ⟨by rw [hn'.out], rfl⟩
          simp [results, Tryz.results23, go_sem]
  · have i2 : ((c0.toNat : Int) == 45) = false := by
      have : c0.toNat ≠ 45 := fun h => hm (UInt8.toNat_inj.1 h)
      simp; omega
    have hmg : Hid (magL l = l.drop 0) := by unfold Hid magL; rw [if_neg (by rw [hh0.out]; intro h; simp only [Option.some.injEq] at h; exact hm h)]; rfl
    have hm' := Lib.hid hm
    clear h0 hm
    by_cases e1 : s.size = 0
    · have j1 : ((s.size : Int) == 0) = true := by simp [e1]
      have hv := numV_none (parse_bad (.inl (List.eq_nil_of_length_eq_zero (by rw [hmg.out, List.length_drop, hlen.out]; omega))))
      rw [hv]
      clear hv e1
      go_enter Tryz.func23, Tryz.ntmps23
      go_wp2
      refine bodyPost_ret (v := .tuple #[.int .i64 0, .bool false]) ?_ rfl ⟨rfl, rfl⟩
      simp [results, Tryz.results23, go_sem]
    have j1 : ((s.size : Int) == 0) = false := by rw [beq_eq_false_iff_ne]; omega
    by_cases e2 : 9 < s.size - 0
    · have j2 : 9 < (s.size : Int) - 0 := by omega
      have hv := numV_none (parse_bad (.inr (.inl (by rw [hmg.out, List.length_drop, hlen.out]; exact e2))))
      rw [hv]
      clear hv e1 e2
      go_enter Tryz.func23, Tryz.ntmps23
      go_wp2
      refine bodyPost_ret (v := .tuple #[.int .i64 0, .bool false]) ?_ rfl ⟨rfl, rfl⟩
      simp [results, Tryz.results23, go_sem]
    have j2 : ¬ 9 < (s.size : Int) - 0 := by omega
    have j2b : ¬ 9 < (s.size : Int) := by first | trivial | omega
    have hpA : 0 < s.size := by omega
    obtain ⟨cA, hcA⟩ : ∃ c : UInt8, s[0]'hpA = c := ⟨_, rfl⟩
    have hcc : cA = c0 := hcA.symm.trans hc0; subst hcc
    have hhd : Hid ((magL l).head? = some cA) := by
      unfold Hid
      rw [hmg.out, List.head?_drop, hat.out 0 hpA, hcA]
    by_cases e3 : cA = 48 ∧ 1 < s.size
    · have j3 : ((cA.toNat : Int) == 48) = true := by rw [e3.1]; rfl
      have j4 : 1 < (s.size : Int) := by omega
      have hv := numV_none (parse_bad (.inr (.inr ⟨by rw [hhd.out, e3.1], by rw [hlen.out]; exact e3.2⟩)))
      rw [hv]
      clear hv e1 e2 e3
      go_enter Tryz.func23, Tryz.ntmps23
      go_wp2
      refine bodyPost_ret (v := .tuple #[.int .i64 0, .bool false]) ?_ rfl ⟨rfl, rfl⟩
      simp [results, Tryz.results23, go_sem]
    have n1 : Hid (¬ magL l = []) := fun h => by
      have h9 : (magL l).length = 0 := by rw [h]; rfl
      rw [hmg.out, List.length_drop, hlen.out] at h9
      omega
    have n2 : Hid (¬ 9 < (magL l).length) := by unfold Hid; rw [hmg.out, List.length_drop, hlen.out]; exact e2
    have n3 : Hid (¬ ((magL l).head? = some 48 ∧ 1 < l.length)) := by rintro ⟨a, b⟩; rw [hhd.out] at a; simp only [Option.some.injEq] at a; rw [hlen.out] at b; exact e3 ⟨a, b⟩
    have hlo : Hid ((magL l).length = s.size - 0) := by unfold Hid; rw [hmg.out, List.length_drop, hlen.out]
    by_cases e4 : cA = 48
    · have j3 : ((cA.toNat : Int) == 48) = true := by rw [e4]; rfl
      have j4 : ¬ 1 < (s.size : Int) := by intro h; exact e3 ⟨e4, by omega⟩
      clear e3 e4 e1 e2
      go_enter Tryz.func23, Tryz.ntmps23
      go_wp2
      go_loop [7, 8] (fun n i => ∃ k : Nat, k + 0 ≤ s.size ∧ i = .int .i64 ((k + 0 : Nat) : Int) ∧ n = .int .i64 (valD 0 ((magL l).take k) : Int) ∧ Hid (((magL l).take k).all isDig = true)) (fun _ i => s.size - (intOf i).toNat)
      case atStart => exact ⟨0, by omega, by rfl, by rfl, by rfl⟩
      case round =>
        obtain ⟨k, hk, rfl, rfl, hok⟩ := hrel
        have hks : k ≤ 9 := by have := n2.out; rw [hlo.out] at this; omega
        have hbd := valD_small hok.out (by rw [List.length_take]; omega)
        obtain ⟨v, hv⟩ : ∃ v, valD 0 ((magL l).take k) = v := ⟨_, rfl⟩
        rw [hv] at hbd ⊢
        have hv' := Lib.hid hv
        clear hv
        by_cases hlt : k + 0 < s.size
        · have hltI : ((k + 0 : Nat) : Int) < (s.size : Int) := by omega
          obtain ⟨c, hc⟩ : ∃ c : UInt8, s[k + 0]'hlt = c := ⟨_, rfl⟩
          have hmk : Hid ((magL l)[k]? = some c) := by
            unfold Hid
            rw [hmg.out]
            exact drop_at (by rw [Nat.add_comm]; rw [hat.out (k + 0) hlt, hc])
          try simp only [Nat.add_zero] at hc
          try simp only [Nat.add_zero] at hltI
          by_cases hd1 : c.toNat < 48
          · have d1 : (c.toNat : Int) < 48 := by omega
            have hn := numV_none (parse_nodig hmk.out (by unfold isDig; simp; omega))
            have hn' := Lib.hid hn
            clear hn
            go_wp2
            refine bodyPost_ret (v := .tuple #[.int .i64 0, .bool false]) ?_ rfl ⟨by rw [hn'.out], rfl⟩
            simp [results, Tryz.results23, go_sem]
          by_cases hd2 : 57 < c.toNat
          · have d1 : ¬ (c.toNat : Int) < 48 := by omega
            have d2 : 57 < (c.toNat : Int) := by omega
            have hn := numV_none (parse_nodig hmk.out (by unfold isDig; simp; omega))
            have hn' := Lib.hid hn
            clear hn
            go_wp2
            refine bodyPost_ret (v := .tuple #[.int .i64 0, .bool false]) ?_ rfl ⟨by rw [hn'.out], rfl⟩
            simp [results, Tryz.results23, go_sem]
          have d1 : ¬ (c.toNat : Int) < 48 := by omega
          have d2 : ¬ 57 < (c.toNat : Int) := by omega
          have d3 : IntKind.u8.wrap ((c.toNat : Int) - 48) = ((c.toNat - 48 : Nat) : Int) := by rw [IntWalk.u8_in _ (by omega)]; omega
          go_wp2
          go_round
          case rel =>
            have ht : (magL l).take (k + 1) = (magL l).take k ++ [c] := by rw [List.take_add_one, hmk.out]; rfl
            refine ⟨k + 1, by omega, by go_num, ?_, ?_⟩
            · rw [ht, valD_snoc, hv'.out]
              all_goals (congr 1 <;> omega)
            · unfold Hid
              rw [ht, List.all_append, hok.out]
              simp [isDig]
              omega
          case measure => simp [intOf]; omega
        · have hkk : k = (magL l).length := by rw [hlo.out]; omega
          have hall : (magL l).all isDig = true := by have := hok.out; rwa [hkk, List.take_length] at this
          have hvv : valD 0 (magL l) = v := by have := hv'.out; rwa [hkk, List.take_length] at this
          have hn := parse_dig n1.out n2.out n3.out hall
          rw [(if_neg (by rw [hh0.out]; intro h; simp only [Option.some.injEq] at h; exact hm'.out h))] at hn
          have hn' := Lib.hid (numV_some hn)
          rw [hvv] at hn'
          clear hn hvv hall hkk
          go_wp2
          refine bodyPost_ret (v := .tuple #[.int .i64 (v : Int), .bool true]) ?_ rfl ⟨by rw [hn'.out], rfl⟩
          simp [results, Tryz.results23, go_sem]
    · have j3 : ((cA.toNat : Int) == 48) = false := by
        have : cA.toNat ≠ 48 := fun h => e4 (UInt8.toNat_inj.1 h)
        simp; omega
      clear e3 e4 e1 e2
      go_enter Tryz.func23, Tryz.ntmps23
      go_wp2
      go_loop [7, 8] (fun n i => ∃ k : Nat, k + 0 ≤ s.size ∧ i = .int .i64 ((k + 0 : Nat) : Int) ∧ n = .int .i64 (valD 0 ((magL l).take k) : Int) ∧ Hid (((magL l).take k).all isDig = true)) (fun _ i => s.size - (intOf i).toNat)
      case atStart => exact ⟨0, by omega, by rfl, by rfl, by rfl⟩
      case round =>
        obtain ⟨k, hk, rfl, rfl, hok⟩ := hrel
        have hks : k ≤ 9 := by have := n2.out; rw [hlo.out] at this; omega
        have hbd := valD_small hok.out (by rw [List.length_take]; omega)
        obtain ⟨v, hv⟩ : ∃ v, valD 0 ((magL l).take k) = v := ⟨_, rfl⟩
        rw [hv] at hbd ⊢
        have hv' := Lib.hid hv
        clear hv
        by_cases hlt : k + 0 < s.size
        · have hltI : ((k + 0 : Nat) : Int) < (s.size : Int) := by omega
          obtain ⟨c, hc⟩ : ∃ c : UInt8, s[k + 0]'hlt = c := ⟨_, rfl⟩
          have hmk : Hid ((magL l)[k]? = some c) := by
            unfold Hid
            rw [hmg.out]
            exact drop_at (by rw [Nat.add_comm]; rw [hat.out (k + 0) hlt, hc])
          try simp only [Nat.add_zero] at hc
          try simp only [Nat.add_zero] at hltI
          by_cases hd1 : c.toNat < 48
          · have d1 : (c.toNat : Int) < 48 := by omega
            have hn := numV_none (parse_nodig hmk.out (by unfold isDig; simp; omega))
            have hn' := Lib.hid hn
            clear hn
            go_wp2
            refine bodyPost_ret (v := .tuple #[.int .i64 0, .bool false]) ?_ rfl ⟨by rw [hn'.out], rfl⟩
            simp [results, Tryz.results23, go_sem]
          by_cases hd2 : 57 < c.toNat
          · have d1 : ¬ (c.toNat : Int) < 48 := by omega
            have d2 : 57 < (c.toNat : Int) := by omega
            have hn := numV_none (parse_nodig hmk.out (by unfold isDig; simp; omega))
            have hn' := Lib.hid hn
            clear hn
            go_wp2
            refine bodyPost_ret (v := .tuple #[.int .i64 0, .bool false]) ?_ rfl ⟨by rw [hn'.out], rfl⟩
            simp [results, Tryz.results23, go_sem]
          have d1 : ¬ (c.toNat : Int) < 48 := by omega
          have d2 : ¬ 57 < (c.toNat : Int) := by omega
          have d3 : IntKind.u8.wrap ((c.toNat : Int) - 48) = ((c.toNat - 48 : Nat) : Int) := by rw [IntWalk.u8_in _ (by omega)]; omega
          go_wp2
          go_round
          case rel =>
            have ht : (magL l).take (k + 1) = (magL l).take k ++ [c] := by rw [List.take_add_one, hmk.out]; rfl
            refine ⟨k + 1, by omega, by go_num, ?_, ?_⟩
            · rw [ht, valD_snoc, hv'.out]
              all_goals (congr 1 <;> omega)
            · unfold Hid
              rw [ht, List.all_append, hok.out]
              simp [isDig]
              omega
          case measure => simp [intOf]; omega
        · have hkk : k = (magL l).length := by rw [hlo.out]; omega
          have hall : (magL l).all isDig = true := by have := hok.out; rwa [hkk, List.take_length] at this
          have hvv : valD 0 (magL l) = v := by have := hv'.out; rwa [hkk, List.take_length] at this
          have hn := parse_dig n1.out n2.out n3.out hall
          rw [(if_neg (by rw [hh0.out]; intro h; simp only [Option.some.injEq] at h; exact hm'.out h))] at hn
          have hn' := Lib.hid (numV_some hn)
          rw [hvv] at hn'
          clear hn hvv hall hkk
          go_wp2
          refine bodyPost_ret (v := .tuple #[.int .i64 (v : Int), .bool true]) ?_ rfl ⟨by rw [hn'.out], rfl⟩
          simp [results, Tryz.results23, go_sem]
end Go.Proofs
