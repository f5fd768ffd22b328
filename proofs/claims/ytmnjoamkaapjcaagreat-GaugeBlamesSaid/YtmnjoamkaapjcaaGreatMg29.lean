import Derived.Test.YtmnjoamkaapjcaaGreatMg28
import Derived.Test.YtmnjoamkaapjcaaGreatMg9
import Derived.Test.YtmnjoamkaapjcaaGreatMg27
set_option linter.unusedSimpArgs false
set_option linter.unusedVariables false
namespace Go.Proofs
open Go.RowKit

theorem own_slice {w : World} {base : Nat} {e : TypeId} {size n : Nat} {v : Value} {xs : List Value} (h : w.ownsRow base e size v n xs) : ∃ A c, v = .slice A n c := by
  rcases h.2 with ⟨rfl, rfl⟩ | ⟨g, cap, cur, h1, -⟩
  · exact ⟨none, 0, rfl⟩
  · exact ⟨_, _, h1⟩
theorem at_drop {w : World} {b o : Nat} {l : List Int} {cl : Nat} (h : At 1 Ic w (some ⟨b, o, none⟩) l) (d : Nat) (hd : l.length ≤ cl) : At 1 Ic w (if cl = d then some ⟨b, o, none⟩ else some ⟨b, o + d, none⟩) (l.drop d) := by
  intro k x hx
  rw [List.getElem?_drop] at hx
  have hlt : d + k < l.length := (List.getElem?_eq_some_iff.1 hx).1
  rw [if_neg (by omega)]
  obtain ⟨b', o', hA, hb, hc⟩ := h (d + k) x hx
  simp only [Option.some.injEq, Addr.mk.injEq, and_true] at hA
  obtain ⟨rfl, rfl⟩ := hA
  refine ⟨b, o + d, rfl, hb, fun j v hv => ?_⟩
  have := hc j v hv
  rw [show o + d + k * 1 + j = o + (d + k) * 1 + j by omega]
  exact this
set_option maxRecDepth 100000 in
set_option maxHeartbeats 4000000 in
theorem cover_any (P : List (Nat × Nat)) (A3 : Option Addr) (cp : Nat) (hm : P.length ≤ 1000) : ∀ (s : Nat) (Al B : Option Addr) (l ch : List Int) (cl cb : Nat) (w : World) (hl : l.length ≤ 100) (hlc : l.length ≤ cl) (hc : ch.length + s ≤ 200) (hs : s ≤ 100) (hat3 : At 2 Pc w A3 P) (hatl : At 1 Ic w Al l) (hatc : At 1 Ic w B ch),
    Calls Tryz.prog 39 #[.slice A3 P.length cp, .slice Al l.length cl, .slice B ch.length cb, .int .i64 (s : Int)] w fun e w' => CovGot (coverV P l ch s) e w' ∧ Below w.heap.size w w'
  | 0, Al, B, l, ch, cl, cb, w, hl, hlc, hc, hs, hat3, hatl, hatc => cover0_any P A3 Al B l ch cp cl cb w hm (by omega) hat3 hatc
  | s + 1, Al, B, l, ch, cl, cb, w, hl, hlc, hc, hs, hat3, hatl, hatc => by
    have ih := Lib.hid (cover_any P A3 cp hm s)
    have hCI := Lib.hid fun W (hb : Below w.heap.size w W) => copyInts_any B ch cb W (by omega) (hatc.below hb)
    have hat3' := Lib.hid hat3
    have hatl' := Lib.hid hatl
    obtain ⟨m, hm0⟩ : ∃ m, P.length = m := ⟨_, rfl⟩
    have hm' := Lib.hid hm0
    obtain ⟨q, hq⟩ : ∃ q, ch.length = q := ⟨_, rfl⟩
    have hq' := Lib.hid hq
    obtain ⟨n, hn⟩ : ∃ n, l.length = n := ⟨_, rfl⟩
    have hn' := Lib.hid hn
    obtain ⟨N, hN⟩ : ∃ N, s + 1 = N := ⟨_, rfl⟩
    have hN' := Lib.hid hN
    rw [hm0] at ih ⊢
    rw [hq] at hCI hc ⊢
    rw [hn] at hl hlc ⊢
    rw [hN] at hc hs ⊢
    have hN0 : ((N : Int) == 0) = false := by rw [beq_eq_false_iff_ne]; omega
    have hN1 : 0 < N := by omega
    have hNw : IntKind.i64.wrap ((N : Int) - 1) = (s : Int) := by rw [IntWalk.i64_in _ (by omega)]; omega
    obtain ⟨R, hR⟩ : ∃ R, coverV P l ch N = R := ⟨_, rfl⟩
    have hR' := Lib.hid hR
    rw [hR]
    obtain ⟨i0, z0, hi, hz0, hz1, hzs, hz2⟩ := info_of (t := 3) (n := 1) (b := 8) (by kernel_rfl)
    clear hat3 hatl hatc hm hm0 hq hn hN hR
    go_enter Tryz.func39, Tryz.ntmps39
    go_wp2
    go_loopw [11] (fun i wr => ∃ k : Nat, k ≤ n ∧ i = .int .i64 k ∧ Hid (coverV P (l.drop k) ch N = R) ∧ Below w.heap.size w wr) (fun i _ => n - (intOf i).toNat)
    case atStart => exact ⟨0, Nat.zero_le _, rfl, hR'.out, Below.refl _ _⟩
    case round =>
      obtain ⟨k, hk, rfl, hno, hbw⟩ := hrel
      have hkw : IntKind.i64.wrap ((k : Int) + (N : Int)) = (k : Int) + (N : Int) := IntWalk.i64_in _ (by omega)
      by_cases hlt : k + N ≤ n
      · obtain ⟨x, hx⟩ : ∃ x, l[k]? = some x := ⟨_, List.getElem?_eq_getElem (by rw [hn'.out]; omega)⟩
        obtain ⟨b, o, rfl, hbl, hcc⟩ := hatl'.out.below hbw k x hx
        have c0 := hcc 0 _ rfl
        simp only [Nat.add_zero, Nat.mul_one] at c0
        have hkI : (k : Int) + (N : Int) ≤ (n : Int) := by omega
        have hkJ : (k : Int) < (n : Int) := by omega
        have hkK : (k : Int) + 1 ≤ (n : Int) := by omega
        have hkw1 : IntKind.i64.wrap ((k : Int) + 1) = (k : Int) + 1 := IntWalk.i64_in _ (by omega)
        have hdr : l.drop k = x :: l.drop (k + 1) := by
          obtain ⟨h1, h2⟩ := List.getElem?_eq_some_iff.1 hx
          rw [List.drop_eq_getElem_cons h1, h2]
        have hst : Hid ((coverV P (l.drop (k + 1)) (ch ++ [x]) s).or (coverV P (l.drop (k + 1)) ch N) = R) := by
          have := hno.out
          rw [hdr, ← hN'.out, cover_cons, hN'.out] at this
          exact this
        clear hcc hx hdr
        obtain ⟨O, hO⟩ : ∃ O, coverV P (l.drop (k + 1)) (ch ++ [x]) s = O := ⟨_, rfl⟩
        have hO' := Lib.hid hO
        rw [hO] at hst
        clear hO
        go_wp2_with fail
        obtain ⟨nn, hnn⟩ : ∃ nn, (O.getD []).length = nn := ⟨_, rfl⟩
        obtain ⟨bb, hbb⟩ : ∃ bb, O.isSome = bb := ⟨_, rfl⟩
        have hnn' := Lib.hid hnn
        have hbb' := Lib.hid hbb
        clear hnn hbb
        apply region_capk w 6 11 12 15 q 3 1 (ch.flatMap Ic) [.int .i64 x] (.cells #[.int .i64 x] 3 (0, 0)) (fun g => .tuple #[.slice g.a1 nn g.c1, .bool bb]) (fun g x => At 1 Ic x g.a1 (O.getD []))
        case hm => kernel_rfl
        case hB => kernel_rfl
        case hB' => intro g; kernel_rfl
        case hS => kernel_rfl
        case hN => kernel_rfl
        case hne => decide
        case hd1 => kernel_rfl
        case hd2 => kernel_rfl
        case hw => exact hbw
        case hPs => exact fun h x x' hh hb => At.below hh hb
        case hq =>
          intro g u hu hgc hbx hbX
          have hub : b < u.heap.size := Nat.lt_of_lt_of_le hbl hu.size
          have u0 := (hu.cell (p := ⟨b, o + k, none⟩) hbl).trans c0
          simp only [mixL, mkCapk, yieldsC, List.contains_cons, List.contains_nil, Nat.reduceAdd, Nat.reduceBEq, Nat.reduceEqDiff, Nat.zero_add, Bool.or_false, Bool.or_true, Bool.false_or, Bool.true_or, Bool.false_eq_true, if_true, if_false, Bool.or_self]
          repeat (go_big_quiet_step (fail))
          exact wpQuiet_nil rfl
        case hind => intro j hj; simp only [List.mem_cons, List.not_mem_nil, or_false] at hj; rcases hj with rfl | rfl | rfl | rfl <;> (intro g h; kernel_rfl)
        case hcl =>
          intro o ho g x hx hx0
          simp only [List.getElem?_cons_succ, List.getElem?_cons_zero, Option.some.injEq] at ho
          subst ho
          refine ⟨9, #[.slice B q cb], by kernel_rfl, (hCI.out x hx0).mono fun e x' ⟨⟨v, he, h1⟩, hb⟩ => ?_⟩
          obtain ⟨A', c', rfl⟩ := own_slice h1
          exact ⟨A', c', he, owns_base h1 hx.size, hb⟩
        case hal =>
          intro o ho g x
          simp only [List.getElem?_cons_succ, List.getElem?_cons_zero, Option.some.injEq] at ho
          subst ho
          kernel_rfl
        case hap =>
          intro o ho g x hx hown hz
          simp only [List.getElem?_cons_succ, List.getElem?_cons_zero, Option.some.injEq] at ho
          subst ho
          exact exec_append (.tmp 56) (.tmp 61) 28 3 i0 z0 _ 1 8 wr.heap.size q _ _ _ 3 rfl (by kernel_rfl) (by kernel_rfl) Tryz.underlying28 hi hz0 hz1 hz2 hzs (by decide) hown hz rfl (by intro u hu; simp at hu; subst hu; rfl) (by unfold maxLen; omega) (by omega) hx.size
        case hkk =>
          intro o' ho g y hy hy0 hown
          simp only [List.getElem?_cons_succ, List.getElem?_cons_zero, Option.some.injEq] at ho
          subst ho
          have hcx : ch.flatMap Ic ++ [.int .i64 x] = (ch ++ [x]).flatMap Ic := by rw [List.flatMap_append]; rfl
          have hcl2 : (ch ++ [x]).length = q + 1 := by rw [List.length_append, hq'.out]; rfl
          rw [hcx, ← hcl2] at hown
          obtain ⟨A', c', e', hatn⟩ := at_of_owns (cs := Ic) (sz := 1) (fun _ => rfl) hown
          injection e' with e1 _ e2
          rw [← e1] at hatn
          have hNe := hN'.out
          have hld : (l.drop (k + 1)).length = n - (k + 1) := by rw [List.length_drop, hn'.out]
          have hI := ih.out (if cl = k + 1 then some ⟨b, o, none⟩ else some ⟨b, o + (k + 1), none⟩) (g 12).a1 (l.drop (k + 1)) (ch ++ [x]) (cl - (k + 1)) (g 12).c1 y (by omega) (by omega) (by omega) (by omega) (hat3'.out.below hy0) (at_drop (hatl'.out.below hy0) (k + 1) (by rw [hn'.out]; exact hlc)) hatn
          rw [hld, hcl2, hO'.out] at hI
          refine ⟨39, #[.slice A3 m cp, .slice (if cl = k + 1 then some ⟨b, o, none⟩ else some ⟨b, o + (k + 1), none⟩) (n - (k + 1)) (cl - (k + 1)), .slice (g 12).a1 (q + 1) (g 12).c1, .int .i64 (s : Int)], by kernel_rfl, hI.mono ?_⟩
          rintro e y' ⟨hg, hb⟩
          rw [← hnn'.out, ← hbb'.out]
          cases O with
          | none => exact ⟨Gh.zero, hg, fun k x hx => by simp at hx, hb⟩
          | some r =>
            obtain ⟨A'', c'', he, h1⟩ := hg
            exact ⟨{ Gh.zero with a1 := A'', c1 := c'' }, he, h1, hb⟩
        case hend =>
          intro g y hy hy0 hP
          have hP' := Lib.hid hP
          clear hP
          cases O with
          | none =>
            obtain rfl : false = bb := hbb'.out
            obtain rfl : 0 = nn := hnn'.out
            have hst2 : Hid (coverV P (l.drop (k + 1)) ch N = R) := hst.out
            clear hst
            go_wp2
            go_roundw
            case rel => exact ⟨k + 1, by omega, by go_num, hst2.out, hy0⟩
            case measure => simp [intOf]; omega
          | some r =>
            obtain rfl : true = bb := hbb'.out
            obtain rfl : r.length = nn := hnn'.out
            have hR2 : R = some r := hst.out.symm
            clear hst
            subst hR2
            go_wp2
            all_goals
              refine bodyPost_ret (v := .tuple #[.slice (g 15).a1 r.length (g 15).c1, .bool true]) ?_ rfl ⟨⟨_, _, rfl, hP'.out⟩, hy0⟩
              simp [results, Tryz.results39, go_sem]
      · have hkI : ¬ (k : Int) + (N : Int) ≤ (n : Int) := by omega
        have hR2 : R = none := by
          rw [← hno.out]
          exact cover_short (by rw [List.length_drop, hn'.out]; omega)
        subst hR2
        clear hR' hno
        go_wp2
        refine bodyPost_ret (v := .tuple #[.slice none 0 0, .bool false]) ?_ rfl ⟨rfl, hbw⟩
        simp [results, Tryz.results39, go_sem]
end Go.Proofs

set_option linter.unusedSimpArgs false
set_option linter.unusedVariables false
namespace Go.Proofs
open Go.RowKit

/-! The closures of Blamed. -/
theorem shl_one : ∀ d ∈ List.range 8, IntKind.u64.wrap (2 ^ d) = ((2 ^ d : Nat) : Int) := by decide +kernel
theorem index_any (A : Option Addr) (c : Nat) (l : List Int) (j : Nat) (x : Int) (w : World) (hl : l.length ≤ 1000) (hup : l.Pairwise (· < ·)) (hj : l[j]? = some x) (hat : At 1 Ic w A l) :
    Calls Tryz.prog 29 #[.slice A l.length c, .int .i64 x] w fun e w' => e = .returned (.int .i64 j) ∧ w = w' := by
  have hjl := (List.getElem?_eq_some_iff.1 hj).1
  have hxe := (List.getElem?_eq_some_iff.1 hj).2
  obtain ⟨g, o, rfl, -⟩ := hat j x hj
  refine (Tryz.slices_Index_int g o l.length c l x w (Nat.le_refl _) (by omega) ?_).mono ?_
  · intro j hj
    obtain ⟨b', o', e, -, hc⟩ := hat j _ (List.getElem?_eq_getElem hj)
    simp only [Option.some.injEq, Addr.mk.injEq, and_true] at e
    obtain ⟨rfl, rfl⟩ := e
    have := hc 0 _ rfl
    simpa [List.getD, List.getElem?_eq_getElem hj] using this
  · rintro e w' ⟨rfl, rfl⟩
    refine ⟨?_, rfl⟩
    rw [Lib.idxOf_hit l l.length j x hjl (Nat.le_refl _) (by simp [List.getD, hj]) (fun i hi => by
      have := List.pairwise_iff_getElem.1 hup i j (by omega) hjl hi
      rw [List.getD_eq_getElem?_getD, List.getElem?_eq_getElem (by omega), Option.getD_some]
      rw [hxe] at this
      omega)]
set_option maxRecDepth 100000 in
set_option maxHeartbeats 1000000 in
theorem bit_any (B c : Nat) (A : Option Addr) (l : List Int) (j : Nat) (x : Int) (w : World) (hl : l.length ≤ 8) (hup : l.Pairwise (· < ·)) (hj : l[j]? = some x) (hat : At 1 Ic w A l)
    (hB : w.heap[B]? = some (.cells #[.slice A l.length c] 28 (0, 0))) :
    Calls Tryz.prog 28 #[.int .i64 x, .pointer (some ⟨B, 0, none⟩)] w fun e w' => e = .returned (.int .u64 ((2 ^ (l.length - 1 - j) : Nat) : Int)) ∧ Below w.heap.size w w' := by
  have hI := Lib.hid fun W (hb : Below w.heap.size w W) => index_any A c l j x W (by omega) hup hj (hat.below hb)
  have hjl := (List.getElem?_eq_some_iff.1 hj).1
  obtain ⟨k, hk⟩ : ∃ k, l.length = k := ⟨_, rfl⟩
  rw [hk] at hI hl hB hjl ⊢
  obtain ⟨d, hd⟩ : ∃ d, k - 1 - j = d := ⟨_, rfl⟩
  have hs := Lib.hid (shl_one d (List.mem_range.2 (by omega)))
  have hw1 : IntKind.i64.wrap ((k : Int) - 1) = (k : Int) - 1 := IntWalk.i64_in _ (by omega)
  have hw2 : IntKind.i64.wrap ((k : Int) - 1 - (j : Int)) = (d : Int) := by rw [IntWalk.i64_in _ (by omega)]; omega
  have hw5 : (k : Int) - 1 - (j : Int) = (d : Int) := by omega
  rw [hd]
  have C0 := bk1 hB
  clear hj hat hup hk hd
  go_enter Tryz.func28, Tryz.ntmps28
  go_wp2_with fail
  refine region_all w (by kernel_rfl) (by kernel_rfl) (by go_grown) ?_
  intro hgc hbx
  repeat (go_big_quiet_step ((go_at_call 29; exact Grew.call_same (hI.out _ (by first | exact Below.refl _ _ | exact (hbx.out _) | assumption)))))
  refine wpQuiet_nil ?_
  intro wa hb hbwa hsw
  clear hgc hbx
  go_wp2
  go_ret
  exact ⟨ret_int hs.out, hbwa⟩
/-- What a set has of a pair. -/
def gotV (v : List Bool) (i j : Nat) : Bool := !(v.getD i false) && !(v.getD j false)
set_option maxRecDepth 100000 in
set_option maxHeartbeats 1000000 in
theorem cl_any (S D B c : Nat) (A : Option Addr) (l : List Int) (v : List Bool) (i j : Nat) (x y : Int) (w : World) (hl : l.length ≤ 8) (hup : l.Pairwise (· < ·)) (hv : v ∈ subs l.length) (hi : l[i]? = some x) (hj : l[j]? = some y) (hat : At 1 Ic w A l)
    (hB : w.heap[B]? = some (.cells #[.slice A l.length c] 28 (0, 0))) (hS : w.heap[S]? = some (.cells #[.int .u64 (valV v)] 71 (0, 0)))
    (hD : w.heap[D]? = some (.cells #[.func (.func 28) #[] #[.pointer (some ⟨B, 0, none⟩)]] 73 (0, 0))) :
    Calls Tryz.prog 31 #[.agg #[.int .i64 x, .int .i64 y], .pointer (some ⟨S, 0, none⟩), .pointer (some ⟨D, 0, none⟩)] w fun e w' => e = .returned (.bool (gotV v i j)) ∧ Below w.heap.size w w' := by
  have hil := (List.getElem?_eq_some_iff.1 hi).1
  have hjl := (List.getElem?_eq_some_iff.1 hj).1
  have hX := Lib.hid fun W (hb : Below w.heap.size w W) => bit_any B c A l i x W hl hup hi (hat.below hb) (bk_keep hb hB)
  have hY := Lib.hid fun W (hb : Below w.heap.size w W) => bit_any B c A l j y W hl hup hj (hat.below hb) (bk_keep hb hB)
  have b1 := val_bit l.length (List.mem_range.2 (by omega)) v hv i (List.mem_range.2 hil)
  have b2 := val_bit l.length (List.mem_range.2 (by omega)) v hv j (List.mem_range.2 hjl)
  unfold gotV
  generalize v.getD i false = q1 at *
  generalize v.getD j false = q2 at *
  generalize (2 ^ (l.length - 1 - i) : Nat) = n1 at *
  generalize (2 ^ (l.length - 1 - j) : Nat) = n2 at *
  generalize valV v = V at *
  have C0 := bk1 hS
  have C1 := bk1 hD
  have C0w := Lib.hid fun W (hb : Below w.heap.size w W) => bk1 (bk_keep hb hS)
  have C1w := Lib.hid fun W (hb : Below w.heap.size w W) => bk1 (bk_keep hb hD)
  clear hi hj hat hup hil hjl hB hS hD hv hl
  cases q1
  all_goals
    go_enter Tryz.func31, Tryz.ntmps31
    go_wp2_with fail
    refine region_all w (by kernel_rfl) (by kernel_rfl) (by go_grown) ?_
    intro hgc hbx
    repeat (go_big_quiet_step ((go_at_call 28; first | with_reducible exact Grew.call (hX.out _ (hbx.out _)) | with_reducible exact Grew.call (hY.out _ (hbx.out _)))))
    refine wpQuiet_nil ?_
    intro wa hb hbwa hsw
    clear hgc hbx
    go_wp2
    go_ret
    exact ⟨by simp, hbwa⟩
end Go.Proofs
