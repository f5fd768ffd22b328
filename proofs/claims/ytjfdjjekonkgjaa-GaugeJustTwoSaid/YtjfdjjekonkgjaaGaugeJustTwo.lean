/- The law GaugeJustTwo of criaderalaw04 returns true for every book and every two days, without any condition: what a cask holds is told on any two days or on none, and on none just if two of its gaugings contradict (right books within the limits of Few, and right days; of others it says nothing). -/
import Derived.Test.YtjfdjjekonkgjaaRows
import Derived.Test.YtjfdjjekonkgjaaDn
import Derived.Test.YtjfdjjekonkgjaaOpen
import Derived.Test.YtjfdjjekonkgjaaOp2
import Derived.WalkKit
import Derived.ProofKit
import Derived.OpenShut
set_option linter.unusedSimpArgs false
set_option linter.unusedVariables false
namespace Go.Proofs.Ytjfdjjekonkgjaa.gaugeJustTwo
open Go.ChangeShapes Go.WideShapes Go.ChangeAt Go.RowKit

theorem own : ownKnob Try.prog.godebug = none := by kernel_rfl

set_option maxRecDepth 100000 in
theorem lifted (os : Os) (started : os.Started) (H : Type) (enc : TypeId × Value → H) :
    ReturnsInHanded {} Try.checked os 9 .any (Rows.gaugeJustTwoSpec.pre6 enc Try.prog Try.f9 Rows.gaugeJustTwoRow.domain false) (Rows.gaugeJustTwoSpec.post enc Try.prog Try.f9 false true false false) := by
  refine returnsInHanded_of_change (C := Try.checked) own started (by kernel_rfl) Try.func9
    (ChangeSpec.witness6 (enc := enc) (C := Try.checked) false ⟨#[], #[.agg #[.int .i64 0, .int .i64 0, .slice none 0 0, .slice none 0 0], .agg #[.int .i64 0, .int .i64 0]], []⟩ 8 (by kernel_rfl) (by kernel_rfl) (by kernel_rfl) (by kernel_rfl)) ?_
  intro W base args ds gs before hval0 hW hcnd _
  have hval : ∀ (j : Nat) t v, Try.f9.params[j]? = some t → args[j]? = some v → Value.okWide Try.prog W .any base t v := hval0
  have hW' := hW
  obtain ⟨p, q, hA0, hV, rfl, hfz, hnd⟩ := hW
  have hA : DataW.TrodAll enc Try.prog W 0 (fun _ => true) true Try.f9.params.toList args.toList ds p := hA0
  rw [Try.params9] at hA hval
  obtain ⟨v0, vs0, d0, ds0, p0, q0, hargs, rfl, rfl, h0, r0⟩ := trodAll_cons hA
  obtain ⟨v1, vs1, d1, ds1, p1, q1, rfl, rfl, rfl, h1, r1⟩ := trodAll_cons r0
  obtain ⟨rfl, rfl, rfl⟩ := trodAll_nil r1
  obtain rfl : args = #[v0, v1] := by cases args; simp_all
  obtain ⟨rfl, rfl⟩ := trodVars_none hV
  obtain ⟨l0, m0, A0, B0, rs0, ms0, c0, e0, rfl, w0, x0, f0, g0, -, i0, j0, k0, n0, -, o0, u0⟩ := open_book (hval 0 49 v0 rfl rfl) h0
  obtain ⟨a1, b1, rfl, w1, x1⟩ := open_two (hval 1 42 v1 rfl rfl) h1
  have hlt := hW'.lt
  simp only [List.append_nil] at hW' hlt
  refine (gaugeJustTwo_walk W l0 m0 A0 B0 rs0 ms0 c0 e0 (wf_i64 w0).1 (wf_i64 w0).2 (wf_i64 x0).1 (wf_i64 x0).2 f0 g0 i0 j0 k0 n0 o0 u0 a1 b1 (wf_i64 w1).1 (wf_i64 w1).2 (wf_i64 x1).1 (wf_i64 x1).2).mono fun e W' ⟨he, hg⟩ => ?_
  subst he
  exact ⟨_, rfl, post_of_below (pv := []) hW' (fun _ _ _ => (trodAll_cons_mk (shut_bool Try.underlying4 _) trodAll_mk0)) (fun sp hsp => trodAll_stays (by kernel_rfl) hg (by rw [Try.params9]; decide +kernel) (by simp only [List.append_nil] at hA0 ⊢; exact hA0) hlt sp hsp) (fun _ _ => rfl) (by simp) hg (ok_one (by kernel_rfl) rfl (okWide_bool_mk Try.underlying4 _))⟩

theorem over : Rows.gaugeJustTwoRow.holds Try.pinned (OpenSpec.ofChange Rows.gaugeJustTwoSpec) :=
  OpenClaim.holds_of_wide 9 Try.f9 rfl rfl rfl rfl rfl rfl rfl ⟨rfl, rfl, rfl, rfl, rfl⟩ rfl rfl rfl rfl rfl (by kernel_rfl) Try.func9 (by kernel_rfl)
    (of_decide_eq_true (by kernel_rfl)) (by unfold Func.isWrapper; first | (rw [if_pos (by decide +kernel)]; kernel_rfl) | (rw [if_neg (by decide +kernel)]; exact ⟨rfl, rfl⟩))
    (fun os started H enc _ => lifted os started H enc)

theorem proved : Rows.GaugeJustTwoSaid :=
  over
#print axioms proved
end Go.Proofs.Ytjfdjjekonkgjaa.gaugeJustTwo
