/- The law GaugeExpects of criaderalaw04 returns true for every book and every gauging, cask and day, without any condition: what a gauging allows on a day, what a cask holds then, and what all casks do, or the errors, are as specified (books within the limits of Few; of others it says nothing). -/
import Derived.Test.YtjfdjjekonkgjaaRows
import Derived.Test.YtjfdjjekonkgjaaEe
import Derived.Test.YtjfdjjekonkgjaaOpen
import Derived.Test.YtjfdjjekonkgjaaOp2
import Derived.Test.YtjfdjjekonkgjaaOp3
import Derived.WalkKit
import Derived.ProofKit
import Derived.OpenShut
set_option linter.unusedSimpArgs false
set_option linter.unusedVariables false
namespace Go.Proofs.Ytjfdjjekonkgjaa.gaugeExpects
open Go.ChangeShapes Go.WideShapes Go.ChangeAt Go.RowKit

theorem own : ownKnob Try.prog.godebug = none := by kernel_rfl

set_option maxRecDepth 100000 in
theorem lifted (os : Os) (started : os.Started) (H : Type) (enc : TypeId × Value → H) :
    ReturnsInHanded {} Try.checked os 14 .any (Rows.gaugeExpectsSpec.pre6 enc Try.prog Try.f14 Rows.gaugeExpectsRow.domain false) (Rows.gaugeExpectsSpec.post enc Try.prog Try.f14 false true false false) := by
  refine returnsInHanded_of_change (C := Try.checked) own started (by kernel_rfl) Try.func14
    (ChangeSpec.witness6 (enc := enc) (C := Try.checked) false ⟨#[], #[.agg #[.int .i64 0, .int .i64 0, .slice none 0 0, .slice none 0 0], .agg #[.int .i64 0, .string .empty, .int .i64 0]], []⟩ 8 (by kernel_rfl) (by kernel_rfl) (by kernel_rfl) (by kernel_rfl)) ?_
  intro W base args ds gs before hval0 hW hcnd _
  have hval : ∀ (j : Nat) t v, Try.f14.params[j]? = some t → args[j]? = some v → Value.okWide Try.prog W .any base t v := hval0
  have hW' := hW
  obtain ⟨p, q, hA0, hV, rfl, hfz, hnd⟩ := hW
  have hA : DataW.TrodAll enc Try.prog W 0 (fun _ => true) true Try.f14.params.toList args.toList ds p := hA0
  rw [Try.params14] at hA hval
  obtain ⟨v0, vs0, d0, ds0, p0, q0, hargs, rfl, rfl, h0, r0⟩ := trodAll_cons hA
  obtain ⟨v1, vs1, d1, ds1, p1, q1, rfl, rfl, rfl, h1, r1⟩ := trodAll_cons r0
  obtain ⟨rfl, rfl, rfl⟩ := trodAll_nil r1
  obtain rfl : args = #[v0, v1] := by cases args; simp_all
  obtain ⟨rfl, rfl⟩ := trodVars_none hV
  obtain ⟨l0, m0, A0, B0, rs0, ms0, c0, e0, rfl, w0, x0, f0, g0, -, i0, j0, k0, n0, -, o0, u0⟩ := open_book (hval 0 49 v0 rfl rfl) h0
  obtain ⟨a1, s1, b1, rfl, w1, x1, hs1⟩ := open_ask (hval 1 102 v1 rfl rfl) h1
  have hlt := hW'.lt
  simp only [List.append_nil] at hW' hlt
  refine (gaugeExpects_walk W l0 m0 A0 B0 rs0 ms0 c0 e0 (wf_i64 w0).1 (wf_i64 w0).2 (wf_i64 x0).1 (wf_i64 x0).2 f0 g0 i0 j0 k0 n0 o0 u0 a1 s1 b1 (wf_i64 w1).1 (wf_i64 w1).2 (wf_i64 x1).1 (wf_i64 x1).2 hs1).mono fun e W' ⟨he, hg⟩ => ?_
  subst he
  exact ⟨_, rfl, post_of_below (pv := []) hW' (fun _ _ _ => (trodAll_cons_mk (shut_bool Try.underlying4 _) trodAll_mk0)) (fun sp hsp => trodAll_stays (by kernel_rfl) hg (by rw [Try.params14]; decide +kernel) (by simp only [List.append_nil] at hA0 ⊢; exact hA0) hlt sp hsp) (fun _ _ => rfl) (by simp) hg (ok_one (by kernel_rfl) rfl (okWide_bool_mk Try.underlying4 _))⟩

theorem over : Rows.gaugeExpectsRow.holds Try.pinned (OpenSpec.ofChange Rows.gaugeExpectsSpec) :=
  OpenClaim.holds_of_wide 14 Try.f14 rfl rfl rfl rfl rfl rfl rfl ⟨rfl, rfl, rfl, rfl, rfl⟩ rfl rfl rfl rfl rfl (by kernel_rfl) Try.func14 (by kernel_rfl)
    (of_decide_eq_true (by kernel_rfl)) (by unfold Func.isWrapper; first | (rw [if_pos (by decide +kernel)]; kernel_rfl) | (rw [if_neg (by decide +kernel)]; exact ⟨rfl, rfl⟩))
    (fun os started H enc _ => lifted os started H enc)

theorem proved : Rows.GaugeExpectsSaid :=
  over
#print axioms proved
end Go.Proofs.Ytjfdjjekonkgjaa.gaugeExpects
