import Derived.Test.YtpmliaildjomeaaGreatDoorMg29
import Derived.WalkKit
import Derived.ProofKit
import Derived.OpenShut
import Derived.Below
import Derived.ChangeSame
import Ieee.Arith
set_option linter.unusedSimpArgs false
set_option linter.unusedVariables false
namespace Go.Proofs
open Go.RowKit
set_option linter.unusedVariables false
/-! LeastGround, where there is a ground. -/
set_option maxRecDepth 100000 in
set_option maxHeartbeats 4000000 in
theorem ground_any (pA eA : Option Addr) (pc ec pn en : Nat) (ps : List Pa) (es : List En) (k ag v : Int) (S : List Nat) (w : World) (hB : BookAt w pA pc ps eA ec es) (hF : FewB ps es) (hR : BookR ps es) (hpn : ps.length = pn) (hen : es.length = en)
    (ha : askE k ag = 0) (hv : 0 ≤ v ∧ v ≤ 1000) (hst : standsB pn (exs es) (worthL ps k ag) k v = true) (hS : leastSetL (fun S => standsB pn (exs (pickL es S)) (worthL ps k ag) k v) en = some S) :
    Calls Tryz.prog 22 #[.agg #[.slice pA pn pc, .slice eA en ec], .agg #[.int .i64 k, .int .i64 ag], .int .i64 v] w fun e w' => (∃ A c, e = .returned (.tuple #[.slice A S.length c, .int .i64 0])) ∧ Below w.heap.size w w' := by
  have hz : bothE ps es k ag = 0 := bothE_zero.2 ⟨hR, ha⟩
  have hBo := Lib.hid fun W (hb : Below w.heap.size w W) => bothErr_any pA eA pc ec pn en ps es k ag W (hB.below hb) hF hpn hen
  rw [hz] at hBo
  have hWo := Lib.hid fun W (hb : Below w.heap.size w W) => worths_any pA eA pc ec pn en ps k ag W (hB.P.below hb) hpn (by rw [← hpn]; exact hF.p)
  have hVi := Lib.hid fun W => within_any v 0 1000 W
  rw [within_iff.2 hv] at hVi
  have hec : en ≤ ec := by rw [← hen]; exact hB.ec'
  have hRi := hR.right
  rw [hpn] at hRi
  have hwl : (worthL ps k ag).length = pn := by rw [worthL_len, hpn]
  have hw1 : k = 1 → Small 1 (worthL ps k ag) := worth_one ps ag
  have hGr := Lib.hid fun W wA wc P1 P2 P3 (hb : Below w.heap.size w W) (hW : At 1 Zc W wA (worthL ps k ag)) (H1 : W.heap[P1]? = some (.cells #[.slice wA pn wc] 33 (0, 0))) (H2 : W.heap[P2]? = some (.cells #[.int .i64 k, .int .i64 ag] 27 (0, 0))) (H3 : W.heap[P3]? = some (.cells #[.int .i64 v] 3 (0, 0))) =>
    ground1_any pA eA wA pn pc en ec wc P1 P2 P3 es (worthL ps k ag) k ag v W hRi (hB.E.below hb) hen hW hwl (by rw [← hpn]; exact hR.n1) (by rw [← hpn]; exact hR.n5) (hR.worths k ag) hw1 (by omega) H1 H2 H3
  simp only [hst] at hGr
  have hLs := Lib.hid fun W wA wc P1 P2 P3 (hb : Below w.heap.size w W) (hW : At 1 Zc W wA (worthL ps k ag)) (H1 : W.heap[P1]? = some (.cells #[.slice wA pn wc] 33 (0, 0))) (H2 : W.heap[P2]? = some (.cells #[.int .i64 k, .int .i64 ag] 27 (0, 0))) (H3 : W.heap[P3]? = some (.cells #[.int .i64 v] 3 (0, 0))) =>
    leastSet_any pA eA wA pn pc en ec wc P1 P2 P3 es (worthL ps k ag) k ag v W hRi (hB.E.below hb) hen hec hW hwl (by rw [← hpn]; exact hR.n1) (by rw [← hpn]; exact hR.n5) (hR.worths k ag) hw1 (by omega) H1 H2 H3
  simp only [hS, LsGot] at hLs
  obtain ⟨ws, hws⟩ : ∃ ws, worthL ps k ag = ws := ⟨_, rfl⟩
  rw [hws] at hWo hGr hLs
  clear hB hF hR hpn hen ha hv hst hS hz hec hRi hwl hw1 hws
  go_enter Tryz.func22, Tryz.ntmps22
  go_wp2
  refine wp_world ?_
  intro w1 hw1
  have hb1 : Below w.heap.size w w1 := by rw [hw1]; go_grown
  have M0 : w1.heap[w.heap.size]? = some (.cells #[.slice pA pn pc, .slice eA en ec] 25 (0, 0)) := by rw [hw1]; (repeat (first | assumption | (refine bk_new _ _ ?_; (simp; done)) | refine bk_drew ?_ | refine bk_alloc ?_ _ | refine bk_set ?_ (by simp <;> omega) _))
  have M1 : w1.heap[w.heap.size + 1]? = some (.cells #[.int .i64 k, .int .i64 ag] 27 (0, 0)) := by rw [hw1]; (repeat (first | assumption | (refine bk_new _ _ ?_; (simp; done)) | refine bk_drew ?_ | refine bk_alloc ?_ _ | refine bk_set ?_ (by simp <;> omega) _))
  have M2 : w1.heap[w.heap.size + 1 + 1]? = some (.cells #[.int .i64 v] 3 (0, 0)) := by rw [hw1]; (repeat (first | assumption | (refine bk_new _ _ ?_; (simp; done)) | refine bk_drew ?_ | refine bk_alloc ?_ _ | refine bk_set ?_ (by simp <;> omega) _))
  have D0 := bk2 M0
  have D1 := bk2 M1
  have D2 := bk1 M2
  clear hw1
  refine region_in w 6 (by kernel_rfl) (by kernel_rfl) hb1 ?_
  intro hgc hbx
  simp only [List.take_succ_cons, List.take_zero, List.drop_succ_cons, List.drop_zero]
  repeat (go_big_quiet_step (first
    | (go_at_call 54; with_reducible exact Grew.call (hBo.out _ (hbx.out _)))
    | (go_at_call 33; with_reducible exact Grew.call_same (hVi.out _))
    | (go_at_call 36; with_reducible exact Grew.call_same (unless_any _ _ _))))
  refine wpQuiet_nil ?_
  intro wb hb_wb hw_wb hs_wb
  clear hgc hbx
  have N0 := bk_keep hb_wb M0
  have N1 := bk_keep hb_wb M1
  have N2 := bk_keep hb_wb M2
  have C0 := bk2 N0
  have C1 := bk2 N1
  have C2 := bk1 N2
  have hbw := via hb1 hb_wb
  clear M0 M1 M2 D0 D1 D2 hb1 hb_wb
  go_wp2_with (first
    | (go_at_call 35; refine (first2 _ _ _).mono ?_; rintro e w' ⟨rfl, rfl⟩)
    | (go_at_call 55; refine (hWo.out _ (via hbw (new_below _ _))).mono ?_; rintro e w3 ⟨⟨A3, c3, rfl, hO3⟩, hb3⟩; (have Q0 := bk_keep hb3 (bk_alloc N0 (.cells #[.int .i64 0, .int .i64 (unl true 2)] 38 (0, 0)))); (have Q1 := bk_keep hb3 (bk_alloc N1 (.cells #[.int .i64 0, .int .i64 (unl true 2)] 38 (0, 0)))); (have Q2 := bk_keep hb3 (bk_alloc N2 (.cells #[.int .i64 0, .int .i64 (unl true 2)] 38 (0, 0)))); (have E0 := bk2 Q0); (have hO3' := Lib.hid (own_ints hO3)); (have hbw3 := via (via hbw (new_below _ _)) hb3); clear hO3 hb3)
    | (go_at_call 56; refine (hGr.out _ A3 c3 _ _ _ (via hbw3 (new_below _ _)) (hO3'.out.below (new_below _ _)) (bk_new _ _ rfl) (bk_alloc Q1 _) (bk_alloc Q2 _)).mono ?_; rintro e w5 ⟨rfl, hb5⟩; (have R0 := bk_keep hb5 (bk_alloc Q0 (.cells #[.slice A3 pn c3] 33 (0, 0)))); (have R1 := bk_keep hb5 (bk_alloc Q1 (.cells #[.slice A3 pn c3] 33 (0, 0)))); (have R2 := bk_keep hb5 (bk_alloc Q2 (.cells #[.slice A3 pn c3] 33 (0, 0)))); (have R9 := bk_keep hb5 (bk_new w3 (.cells #[.slice A3 pn c3] 33 (0, 0)) rfl)); (have G0 := bk2 R0); (have hbw5 := via hbw3 (via (new_below _ _) hb5)); (have hO5' := Lib.hid (hO3'.out.below (via (new_below _ _) hb5))); clear hb5)
    | (go_at_call 59; refine (hLs.out _ A3 c3 _ _ _ hbw5 hO5'.out R9 R1 R2).mono ?_; rintro e w6 ⟨⟨A6, c6, rfl, -⟩, hb6⟩))
  go_ret2
  exact ⟨⟨A6, c6, rfl⟩, via hbw5 hb6⟩
end Go.Proofs

/- The last step of a row whose walk ends in 'Below': the lines that the kit's extra-small.md section 9 offers to be laid into a claim. -/
set_option linter.unusedSimpArgs false
set_option linter.unusedVariables false
namespace Go.Proofs
open Go.RowKit Go.WideShapes Go.ChangeShapes
section
variable {H : Type} {enc : TypeId × Value → H} {P : Program}
theorem post_of_below {f : Func} {s : ChangeSpec} {apart fresh handsOn again : Bool} {W W' : World} {args : Array Value} {v : Value} {ds gs : List (DataW H)} {before pa pv : List MemPlace}
    (hW : DataW.Whole enc P f.params.toList s.vars apart W args.toList ds gs before)
    (hres : ∀ (b : Nat) (sp : Nat → Bool) (hd : Bool), DataW.TrodAll enc P W' b sp hd f.resultTypes.toList (v.resultList f.resultTypes.size) (s.fn H (ds ++ gs)).results [])
    (hargs : ∀ sp : Nat → Bool, (∀ p ∈ before, sp p.block = true) → DataW.TrodAll enc P W' 0 sp true f.params.toList args.toList (s.fn H (ds ++ gs)).args pa)
    (hvars : ∀ sp : Nat → Bool, (∀ p ∈ before, sp p.block = true) → DataW.TrodVars enc P W' sp s.vars (s.fn H (ds ++ gs)).vars pv)
    (hps : before = pa ++ pv) (hb : Below W.heap.size W W')
    (hok : ∀ (j : Nat) (t : TypeId) (r : Value), f.resultTypes[j]? = some t → (v.resultList f.resultTypes.size)[j]? = some r → Value.okWide P W' .any 0 t r) :
    s.post enc P f apart fresh handsOn again W args v W' := by
  have hlt : ∀ p ∈ before, p.block < W.heap.size := fun p hp => hW.lt p hp
  have hold : ∀ p ∈ before, (fun b => decide (b < W.heap.size)) p.block = true := fun p hp => by simpa using hlt p hp
  refine ⟨ds, gs, before, [], pa, pv, hW, hres _ _ _, hargs _ hold, hvars _ hold, World.keptBut_mono (fun p hp => ⟨hp, ?_⟩) (hb.frame (· ∈ before)), fun _ => ?_⟩
  · rw [hps, List.mem_append] at hp
    exact Or.inr hp
  · obtain ⟨_, _, _, _, _, hz, hn⟩ := hW
    refine ⟨hok, _, _, ([] ++ pa) ++ pv, ⟨[] ++ pa, pv, trodAll_append (hargs _ (fun _ _ => rfl)) (hres _ _ _), hvars _ (fun _ _ => rfl), rfl, ?_, ?_⟩, ?_⟩
    · intro b off hp
      have hin : MemPlace.cell b off ∈ before := by rw [hps]; simpa using hp
      rw [hb.frozen (hlt _ hin)]
      exact hz b off hin
    · intro ha
      have := hn ha
      rw [hps] at this
      simpa using this
    · intro p hp _
      rw [hps]
      simpa using hp
end
/-- An int of 64 bits lies between its ends. -/
theorem wf_i64 {n : Int} (h : (Lit.int .i64 n).wf = true) : -9223372036854775808 ≤ n ∧ n ≤ 9223372036854775807 := by
  simp only [Lit.wf, IntKind.min, IntKind.max, IntKind.signed, IntKind.bits, Bool.and_eq_true, decide_eq_true_eq, if_true] at h
  omega
end Go.Proofs

set_option linter.unusedSimpArgs false
set_option linter.unusedVariables false
namespace Ieee
/-! The square root of a whole number below 2 ^ 40, as a double, is a number from 0 to 2 ^ 31. -/

theorem d_least : double.leastPlace = -1074 := by decide
theorem d_binade : double.binade = 4503599627370496 := by decide
theorem d_inf : double.infRung = 9218868437227405312 := by decide
theorem d_sign : double.signWeight = 9223372036854775808 := by decide
theorem d_frac : double.fractionBits = 52 := rfl

theorem lt_pow_log2 (n : Nat) : n < 2 ^ (n.log2 + 1) := Nat.lt_log2_self
theorem pow_log2_le {n : Nat} (h : n ≠ 0) : 2 ^ n.log2 ≤ n := Nat.log2_self_le h

/-- What a rung of a normal number stands for. -/
theorem read_normal (e k : Nat) (hk : 4503599627370496 ≤ k) (hk2 : k < 9007199254740992) (he : e ≤ 2000) :
    double.read (e * 4503599627370496 + k) = .number false k (-1074 + (e : Int)) := by
  unfold Format.read
  rw [d_least, d_binade, d_inf, d_sign]
  have hlt : e * 4503599627370496 + k < 9218868437227405312 := by omega
  have h1 : (e * 4503599627370496 + k) / 9223372036854775808 % 2 = 0 := by omega
  have h2 : (e * 4503599627370496 + k) % 9223372036854775808 = e * 4503599627370496 + k := by omega
  simp only [h1, h2]
  have h3 : ¬ e * 4503599627370496 + k < 4503599627370496 := by omega
  have h4 : (e * 4503599627370496 + k) % 4503599627370496 = k - 4503599627370496 := by omega
  have h5 : (e * 4503599627370496 + k) / 4503599627370496 - 1 = e := by omega
  rw [if_neg h3, if_pos hlt, h4, h5]
  have h6 : 4503599627370496 + (k - 4503599627370496) = k := by omega
  rw [h6]
  simp

theorem cut_zero (way : Toward) (n : Nat) (neg : Bool) : way.cut neg n 0 = n := by
  unfold Toward.cut
  simp only [Nat.zero_min, Nat.shiftLeft_zero, Nat.div_one, Nat.mod_one]
  cases way <;> simp

/-- A number that is not too great nor too small, written. -/
theorem nearest_small (m : Nat) (p : Int) (h0 : m ≠ 0) (hp : -1000 ≤ p + (m.log2 : Int) - 52) (hp2 : p + (m.log2 : Int) - 52 ≤ 900) :
    ∃ k, 4503599627370496 ≤ k ∧ k ≤ 9007199254740992 ∧ double.nearest false m p = (p + (m.log2 : Int) - 52 + 1074).toNat * 4503599627370496 + k := by
  unfold Format.nearest
  rw [if_neg h0, d_least, d_binade, d_inf, d_frac]
  have hmax : max (p + (m.log2 : Int) - 52) (-1074) = p + (m.log2 : Int) - 52 := by omega
  have hmax' : max (p + (m.log2 : Int) - ((52 : Nat) : Int)) (-1074) = p + (m.log2 : Int) - 52 := by omega
  simp only [hmax']
  have hlo := pow_log2_le h0
  have hhi := lt_pow_log2 m
  generalize m.log2 = L at *
  have key : 4503599627370496 ≤ Toward.even.cut false (m <<< (p - (p + (L : Int) - 52)).toNat) (p + (L : Int) - 52 - p).toNat ∧ Toward.even.cut false (m <<< (p - (p + (L : Int) - 52)).toNat) (p + (L : Int) - 52 - p).toNat ≤ 9007199254740992 := by
    by_cases hL : L ≤ 52
    · have h1 : (p - (p + (L : Int) - 52)).toNat = 52 - L := by omega
      have h2 : (p + (L : Int) - 52 - p).toNat = 0 := by omega
      rw [h1, h2, cut_zero, Nat.shiftLeft_eq]
      have e : 2 ^ L * 2 ^ (52 - L) = 4503599627370496 := by rw [← Nat.pow_add, show L + (52 - L) = 52 by omega]
      have e2 : 2 ^ (L + 1) * 2 ^ (52 - L) = 9007199254740992 := by rw [← Nat.pow_add, show L + 1 + (52 - L) = 53 by omega]
      have a1 := Nat.mul_le_mul_right (2 ^ (52 - L)) hlo
      have a2 := Nat.mul_le_mul_right (2 ^ (52 - L)) (Nat.le_of_lt hhi)
      omega
    · have h1 : (p - (p + (L : Int) - 52)).toNat = 0 := by omega
      have h2 : (p + (L : Int) - 52 - p).toNat = L - 52 := by omega
      rw [h1, h2, Nat.shiftLeft_zero]
      unfold Toward.cut
      have hl2 : m.log2 = L := by
        have a1 := (Nat.le_log2 h0 (k := L)).2 hlo
        have a2 := (Nat.log2_lt h0).2 hhi
        omega
      have hmin : min (L - 52) (m.log2 + 2) = L - 52 := by omega
      simp only [hmin, Nat.one_shiftLeft]
      have e : 2 ^ (L - 52) * 4503599627370496 = 2 ^ L := by rw [show (4503599627370496 : Nat) = 2 ^ 52 by decide, ← Nat.pow_add, show L - 52 + 52 = L by omega]
      have e2 : 2 ^ (L - 52) * 9007199254740992 = 2 ^ (L + 1) := by rw [show (9007199254740992 : Nat) = 2 ^ 53 by decide, ← Nat.pow_add, show L - 52 + 53 = L + 1 by omega]
      have hg : 0 < 2 ^ (L - 52) := Nat.two_pow_pos _
      have d1 : 4503599627370496 ≤ m / 2 ^ (L - 52) := (Nat.le_div_iff_mul_le hg).2 (by rw [Nat.mul_comm, e]; exact hlo)
      have d2 : m / 2 ^ (L - 52) < 9007199254740992 := (Nat.div_lt_iff_lt_mul hg).2 (by rw [Nat.mul_comm, e2]; exact hhi)
      generalize m / 2 ^ (L - 52) = q at *
      have hb : ∀ b : Bool, b.toNat ≤ 1 := by decide
      have hb1 := hb (decide (2 ^ (L - 52) < 2 * (m % 2 ^ (L - 52))) || (2 ^ (L - 52) == 2 * (m % 2 ^ (L - 52)) && q % 2 == 1))
      omega
  refine ⟨_, key.1, key.2, ?_⟩
  unfold Format.word
  rw [if_neg (by decide), Int.sub_neg, Nat.min_eq_left (by omega)]

theorem rootFrom_le (n : Nat) : ∀ (todo r : Nat), r * r ≤ n → Datum.rootFrom n todo r * Datum.rootFrom n todo r ≤ n
  | 0, r, h => h
  | t + 1, r, h => by
    unfold Datum.rootFrom
    dsimp only
    split
    · rename_i h2; exact rootFrom_le n t _ h2
    · exact rootFrom_le n t _ h

/-- A whole number, written and read. -/
theorem read_whole (n : Nat) (h0 : n ≠ 0) (h : n < 2 ^ 40) :
    ∃ k L : Nat, L ≤ 39 ∧ 4503599627370496 ≤ k ∧ k < 9007199254740992 ∧ double.read (double.nearest false n 0) = .number false k ((L : Int) - 52) := by
  have hlo := pow_log2_le h0
  have hhi := lt_pow_log2 n
  have hL : n.log2 ≤ 39 := by have := (Nat.log2_lt h0).2 h; omega
  have hk : double.nearest false n 0 = (n.log2 + 1022) * 4503599627370496 + n * 2 ^ (52 - n.log2) := by
    unfold Format.nearest
    rw [if_neg h0, d_least, d_binade, d_inf, d_frac]
    have hmax' : max ((0 : Int) + (n.log2 : Int) - ((52 : Nat) : Int)) (-1074) = (n.log2 : Int) - 52 := by omega
    simp only [hmax']
    have h1 : ((0 : Int) - ((n.log2 : Int) - 52)).toNat = 52 - n.log2 := by omega
    have h2 : ((n.log2 : Int) - 52 - 0).toNat = 0 := by omega
    have h3 : ((n.log2 : Int) - 52 - -1074).toNat = n.log2 + 1022 := by omega
    rw [h1, h2, h3, cut_zero, Nat.shiftLeft_eq]
    unfold Format.word
    rw [if_neg (by decide), Nat.min_eq_left]
    have e2 : 2 ^ (n.log2 + 1) * 2 ^ (52 - n.log2) = 9007199254740992 := by rw [← Nat.pow_add, show n.log2 + 1 + (52 - n.log2) = 53 by omega]
    have a2 := Nat.mul_le_mul_right (2 ^ (52 - n.log2)) (Nat.le_of_lt hhi)
    omega
  have e : 2 ^ n.log2 * 2 ^ (52 - n.log2) = 4503599627370496 := by rw [← Nat.pow_add, show n.log2 + (52 - n.log2) = 52 by omega]
  have e2 : 2 ^ (n.log2 + 1) * 2 ^ (52 - n.log2) = 9007199254740992 := by rw [← Nat.pow_add, show n.log2 + 1 + (52 - n.log2) = 53 by omega]
  have a1 := Nat.mul_le_mul_right (2 ^ (52 - n.log2)) hlo
  have a2 := Nat.mul_lt_mul_of_pos_right hhi (Nat.two_pow_pos (52 - n.log2))
  refine ⟨n * 2 ^ (52 - n.log2), n.log2, hL, by omega, by omega, ?_⟩
  rw [hk, read_normal _ _ (by omega) (by omega) (by omega)]
  rw [show (-1074 : Int) + ((n.log2 + 1022 : Nat) : Int) = (n.log2 : Int) - 52 by omega]

theorem sqrt_whole (n : Nat) (h0 : n ≠ 0) (h : n < 2 ^ 40) :
    ∃ R m p, double.sqrt (double.nearest false n 0) = some R ∧ double.read R = .number false m p ∧ m ≤ 9007199254740992 ∧ p ≤ -30 ∧ -500 ≤ p := by
  obtain ⟨k, L, hL, hk1, hk2, hr⟩ := read_whole n h0 h
  unfold Format.sqrt
  rw [hr]
  have hk0 : k ≠ 0 := by omega
  have hlog : k.log2 = 52 := by
    have a1 := (Nat.le_log2 hk0 (k := 52)).2 (by omega)
    have a2 := (Nat.log2_lt hk0 (k := 53)).2 (by omega)
    omega
  unfold Datum.root
  simp only [if_neg hk0, if_neg (show ¬ (false = true) by decide), d_frac, hlog]
  generalize hmore : 2 * (52 + 2) - 52 + (((L : Int) - 52 - ((2 * (52 + 2) - 52 : Nat) : Int)) % 2).toNat = more
  have hm1 : 56 ≤ more ∧ more ≤ 57 := by omega
  generalize hw : Datum.rootFrom (k <<< more) ((k <<< more).log2 / 2 + 1) 0 = whole
  have hle : whole * whole ≤ k <<< more := by rw [← hw]; exact rootFrom_le _ _ _ (by simp)
  rw [Nat.shiftLeft_eq] at hle
  have hpow : 2 ^ more ≤ 2 ^ 57 := Nat.pow_le_pow_right (by omega) hm1.2
  have hprod : k * 2 ^ more ≤ 9007199254740991 * 2 ^ 57 := Nat.mul_le_mul (by omega) hpow
  have hwl : whole < 36028797018963968 := by
    rcases Nat.lt_or_ge whole 36028797018963968 with h1 | h1
    · exact h1
    · have := Nat.mul_le_mul h1 h1
      omega
  have hpos : 0 < k * 2 ^ more := Nat.mul_pos (by omega) (Nat.two_pow_pos _)
  have hb : ∀ b : Bool, b.toNat ≤ 1 := by decide
  have hb1 := hb (whole * whole != k <<< more)
  have hM0 : 2 * whole + (whole * whole != k <<< more).toNat ≠ 0 := by
    intro h1
    have hw0 : whole = 0 := by omega
    rw [hw0, Nat.shiftLeft_eq] at h1
    have : (0 * 0 != k * 2 ^ more) = true := by rw [bne_iff_ne]; omega
    rw [this] at h1
    simp at h1
  generalize (whole * whole != k <<< more).toNat = b at *
  have hML : (2 * whole + b).log2 ≤ 56 := by
    have := (Nat.log2_lt hM0 (k := 57)).2 (by omega)
    omega
  obtain ⟨k', hk1', hk2', hn⟩ := nearest_small (2 * whole + b) (((L : Int) - 52 - more) / 2 - 1) hM0 (by omega) (by omega)
  generalize (2 * whole + b).log2 = M at *
  simp only [Option.map_some, Format.write]
  rw [hn]
  rcases Nat.lt_or_ge k' 9007199254740992 with h1 | h1
  · refine ⟨_, _, _, rfl, read_normal _ _ hk1' h1 (by omega), by omega, by omega, by omega⟩
  · have : k' = 9007199254740992 := by omega
    subst this
    generalize hE : ((L : Int) - 52 - more) / 2 - 1 + (M : Int) - 52 + 1074 = E
    refine ⟨E.toNat * 4503599627370496 + 9007199254740992, 4503599627370496, -1074 + ((E.toNat + 1 : Nat) : Int), rfl, ?_, ?_, ?_, ?_⟩
    · have e : E.toNat * 4503599627370496 + 9007199254740992 = (E.toNat + 1) * 4503599627370496 + 4503599627370496 := by omega
      rw [e]
      exact read_normal _ _ (by omega) (by omega) (by omega)
    · omega
    · omega
    · omega

theorem cut_down (m d : Nat) (hm : m ≤ 9007199254740992) (hd : 30 ≤ d) : Toward.zero.cut false m d ≤ 8388608 := by
  unfold Toward.cut
  simp only [Bool.toNat_false, Nat.add_zero, Nat.one_shiftLeft]
  rcases Nat.le_total d (m.log2 + 2) with h | h
  · rw [Nat.min_eq_left h]
    have h1 : 2 ^ 30 ≤ 2 ^ d := Nat.pow_le_pow_right (by omega) hd
    refine Nat.le_trans (Nat.div_le_div_left h1 (by decide)) ?_
    omega
  · rw [Nat.min_eq_right h]
    have h1 := lt_pow_log2 m
    have h2 : 2 ^ (m.log2 + 1) ≤ 2 ^ (m.log2 + 2) := Nat.pow_le_pow_right (by omega) (by omega)
    rw [Nat.div_eq_of_lt (by omega)]
    omega

/-- THE ROOT OF A WHOLE NUMBER, AS AN INTEGER: from 0 to 2 ^ 23. -/
theorem sqrt_int (n : Nat) (h : n < 2 ^ 40) : ∃ (R : Nat) (r : Int), double.sqrt (double.nearest false n 0) = some R ∧ (double.read R).toInt .zero = some r ∧ 0 ≤ r ∧ r ≤ 8388608 := by
  by_cases h0 : n = 0
  · subst h0
    exact ⟨0, 0, by decide, by decide, by decide, by decide⟩
  · obtain ⟨R, m, p, hR, hr, hm, hp, _⟩ := sqrt_whole n h0 h
    refine ⟨R, _, hR, by rw [hr]; rfl, ?_, ?_⟩
    · unfold signed; simp
    · unfold signed
      have hp0 : p.toNat = 0 := by omega
      have := cut_down m (-p).toNat hm (by omega)
      simp only [hp0, Nat.shiftLeft_zero]
      simp only [Bool.false_eq_true, if_false]
      omega
end Ieee
