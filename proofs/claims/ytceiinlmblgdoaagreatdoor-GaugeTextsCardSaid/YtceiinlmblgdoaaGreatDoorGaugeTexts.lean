/- GaugeTexts of criaderalaw04 returns true at every input: the text of a gauging, and the gauging with any text, or the errors, are as specified; a right gauging is read back. The tied card. Conditions: the listed package-level variables of the library start as the program's text lays them (the card ties them); the limits stand in the law itself. -/
import Derived.Test.YtceiinlmblgdoaaGreatDoorRows
import Derived.Test.YtceiinlmblgdoaaGreatDoorCards
import Derived.Test.YtceiinlmblgdoaaGreatDoorTie
import Derived.Test.YtceiinlmblgdoaaGreatDoorOg
import Derived.Test.YtceiinlmblgdoaaGreatDoorPost
import Derived.WalkKit
import Derived.ProofKit
import Derived.OpenShut
import Derived.SevenTiedAt
set_option linter.unusedSimpArgs false
set_option linter.unusedVariables false
namespace Go.Proofs.YtceiinlmblgdoaaGreatDoor.gaugeTexts
open Go Go.ChangeShapes Go.WideShapes Go.ChangeAt Go.RowKit

theorem own : ownKnob Tryz.prog.godebug = none := by kernel_rfl
theorem tabs_of {W : World} (hL : laidMet Tryz.prog Rows.gaugeTextsRow.laid W) (hsh : W.ShapedOpen Tryz.prog) : Tabs W := by
  have r1 := Lib.laidMet.reads hL (n := "internal/strconv.uint64pow10") (d := Rows.laid_internal_strconv_uint64pow10) (.tail _ (.tail _ (.head _)))
  have r2 := Lib.laidMet.reads hL (n := "strconv.ErrRange") (d := Rows.laid_strconv_ErrRange) (.tail _ (.tail _ (.tail _ (.tail _ (.head _)))))
  have r3 := Lib.laidMet.reads hL (n := "strconv.ErrSyntax") (d := Rows.laid_strconv_ErrSyntax) (.tail _ (.tail _ (.tail _ (.tail _ (.tail _ (.head _))))))
  have e1 : (Rows.laid_internal_strconv_uint64pow10 : DataW Unit) = Lib.tabData .u64 Lib.pow10Tab := by kernel_rfl
  rw [e1] at r1
  refine ⟨tabIs_of_reads (g := 3) (t := 153) (e := 136) (n := 20) (by kernel_rfl) (by kernel_rfl) Tryz.underlying153 Tryz.underlying136 (by kernel_rfl) (by kernel_rfl) r1, ?_, ?_, ?_⟩
  · obtain ⟨u, v, h⟩ := iface_of_reads (g := 0) (t := 58) (by kernel_rfl) (by kernel_rfl) Tryz.underlying58 r3
    exact ⟨_, h, .inr ⟨u, v, rfl⟩⟩
  · obtain ⟨u, v, h⟩ := iface_of_reads (g := 1) (t := 58) (by kernel_rfl) (by kernel_rfl) Tryz.underlying58 r2
    exact ⟨_, h, .inr ⟨u, v, rfl⟩⟩
  · exact Go.Proofs.cell_of_shapedOpen_int (g := 2) (zero := #[.int .i64 0]) (t := 3) hsh (of_decide_eq_true (by kernel_rfl)) (by kernel_rfl) rfl (by kernel_rfl) (by kernel_rfl) Tryz.underlying3

set_option maxRecDepth 100000 in
theorem lifted (os : Os) (started : os.Started) (H : Type) (enc : TypeId × Value → H) :
    ReturnsInHanded {} Tryz.checked os 3 .any (fun w args => (Rows.gaugeTextsSpec.pre enc Tryz.prog Tryz.f3 [] false w args ∧ laidMetH Tryz.prog Rows.gaugeTextsRow.laid w) ∧ sizedMet enc Tryz.prog Tryz.f3 (OpenSpec.ofChange Rows.gaugeTextsSpec) false w args)
      (Rows.gaugeTextsSpec.post enc Tryz.prog Tryz.f3 false true false false) := by
  refine of_change_and_shaped (C := Tryz.checked) (X := fun w _ => laidMetH Tryz.prog Rows.gaugeTextsRow.laid w) (fun _ _ _ hh h => h.of_heap hh) own started (by kernel_rfl) Tryz.func3
    (ChangeSpec.witness_shaped (enc := enc) (C := Tryz.checked) (os := os) (X := fun w _ => laidMetH Tryz.prog Rows.gaugeTextsRow.laid w) false (World.laidAll Tryz.prog os Rows.gaugeTextsRow.laid) #[.agg #[.string .empty, .int .i64 0, .int .i64 0, .int .i64 0], .string .empty] 8 (World.laidAll_os _ _ _)
      (World.shaped_of_ZipB (by kernel_rfl) (by kernel_rfl)) (by kernel_rfl) (by kernel_rfl) (by kernel_rfl)
      (by rw [MakeChecks.laidMetH_plain _ _ _ (by kernel_rfl)]; exact laidMet_laidAll _ (by kernel_rfl) (by kernel_rfl))) ?_
  intro W base args ds gs before hval0 hW hL hsh
  have hval : ∀ (j : Nat) t v, Tryz.f3.params[j]? = some t → args[j]? = some v → Value.okWide Tryz.prog W .any base t v := hval0
  have hW' := hW
  obtain ⟨p, q, hA0, hV, rfl, hfz, hnd⟩ := hW
  have hA : DataW.TrodAll enc Tryz.prog W 0 (fun _ => true) true Tryz.f3.params.toList args.toList ds p := hA0
  rw [Tryz.params3] at hA hval
  obtain ⟨v0, vs0, d0, ds0, p0, q0, hargs, rfl, rfl, h0, r0⟩ := trodAll_cons hA
  obtain ⟨v1, vs1, d1, ds1, p1, q1, rfl, rfl, rfl, h1, r1⟩ := trodAll_cons r0
  obtain ⟨rfl, rfl, rfl⟩ := trodAll_nil r1
  obtain rfl : args = #[v0, v1] := by cases args; simp_all
  obtain ⟨rfl, rfl⟩ := trodVars_none hV
  obtain ⟨s0, a0, b0, c0, rfl, hs0, w0, x0, y0⟩ := open_gx (hval 0 25 v0 rfl rfl) h0
  obtain ⟨s1, rfl, -, -, hs1⟩ := Go.ChangeMaps.open_string Tryz.underlying9 (hval 1 9 v1 rfl rfl) h1
  have hlt := hW'.lt
  simp only [List.append_nil] at hW' hlt
  rw [MakeChecks.laidMetH_plain _ _ _ (by kernel_rfl)] at hL
  have ht := tabs_of hL hsh
  have hc : s0.data.toList.length ≤ 9223372036854775807 := by
    have e : s0.data.toList.length = s0.size := by simp
    unfold maxLen at hs0
    omega
  have hwk := gaugeTexts_walk W s0.data.toList a0 b0 c0 hc (wf_i64 w0) (wf_i64 x0) (wf_i64 y0) s1 ht
  rw [bs_eta] at hwk
  refine hwk.mono fun e W' ⟨he, hg⟩ => ?_
  subst he
  exact ⟨_, rfl, post_of_below (pv := []) hW' (fun _ _ _ => (trodAll_cons_mk (shut_bool Tryz.underlying4 _) trodAll_mk0)) (fun sp hsp => trodAll_stays (by kernel_rfl) hg (by rw [Tryz.params3]; decide +kernel) (by simp only [List.append_nil] at hA0 ⊢; exact hA0) hlt sp hsp) (fun _ _ => rfl) (by simp) hg (ok_one (by kernel_rfl) rfl (okWide_bool_mk Tryz.underlying4 _))⟩

theorem over : Rows.gaugeTextsRow.holds Tryz.pinned (OpenSpec.ofChange Rows.gaugeTextsSpec) :=
  OpenClaim.holds_of_wide 3 Tryz.f3 rfl rfl rfl rfl rfl rfl rfl ⟨rfl, rfl, rfl, rfl, rfl⟩ rfl rfl rfl rfl rfl (by kernel_rfl) Tryz.func3 (by kernel_rfl)
    (of_decide_eq_true (by kernel_rfl)) (by unfold Func.isWrapper; first | (rw [if_pos (by decide +kernel)]; kernel_rfl) | (rw [if_neg (by decide +kernel)]; exact ⟨rfl, rfl⟩))
    (fun os started H enc _ => lifted os started H enc)

theorem proved : Rows.GaugeTextsCardSaid :=
  Claim7.holds_tied_plain_at .later [] [.data, .data, .data, .data, .sentinel, .sentinel, .pinned] true (true, "494ff217438f75007f7e4c53cd1b9e7d48ab5a14b54b6f73e0b9d61586eb8139") true
    over (fun _ h => by cases h) (by kernel_rfl) (fun _ h => by cases h) gaugeTexts_row_tie rfl ⟨rfl, rfl⟩ (by kernel_rfl) rfl
    (fun f fn hf hfn => by
      obtain rfl : f = 3 := Option.some.inj ((show Tryz.prog.funcNamed "criadera/criaderalaw04.GaugeTexts" = some 3 by kernel_rfl).symm.trans hf) |>.symm
      obtain rfl : fn = Tryz.f3 := (Option.some.inj (Tryz.func3.symm.trans hfn)).symm
      exact ⟨by kernel_rfl, fun j t ht => by
        rw [Tryz.params3] at ht
        have hm : t ∈ [25, 9] := by simpa using Array.mem_of_getElem? ht
        have hall : ([25, 9].all fun u => !Tryz.prog.wantsStandIn u) = true := by kernel_rfl
        exact (show Tryz.prog.wantsStandIn t = false by simpa using List.all_eq_true.1 hall t hm)⟩)
    (by kernel_rfl)
#print axioms proved
end Go.Proofs.YtceiinlmblgdoaaGreatDoor.gaugeTexts
