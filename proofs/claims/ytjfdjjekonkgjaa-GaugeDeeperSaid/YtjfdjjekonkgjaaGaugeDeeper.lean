/- The law GaugeDeeper of criaderalaw04 returns true for every cask, every two dips and every two numbers, without any condition: with a greater dip no end of the volume is less, and with wider curves no end is narrower (right casks within the limits of Small, and their dips; of others it says nothing). -/
import Derived.Test.YtjfdjjekonkgjaaRows
import Derived.Test.YtjfdjjekonkgjaaDg
import Derived.Test.YtjfdjjekonkgjaaOpen
import Derived.Test.YtjfdjjekonkgjaaOp2
import Derived.WalkKit
import Derived.ProofKit
import Derived.OpenShut
set_option linter.unusedSimpArgs false
set_option linter.unusedVariables false
namespace Go.Proofs.Ytjfdjjekonkgjaa.gaugeDeeper
open Go.ChangeShapes Go.WideShapes Go.ChangeAt Go.RowKit

theorem own : ownKnob Try.prog.godebug = none := by kernel_rfl

set_option maxRecDepth 100000 in
theorem lifted (os : Os) (started : os.Started) (H : Type) (enc : TypeId × Value → H) :
    ReturnsInHanded {} Try.checked os 5 .any (Rows.gaugeDeeperSpec.pre6 enc Try.prog Try.f5 Rows.gaugeDeeperRow.domain false) (Rows.gaugeDeeperSpec.post enc Try.prog Try.f5 false true false false) := by
  refine returnsInHanded_of_change (C := Try.checked) own started (by kernel_rfl) Try.func5
    (ChangeSpec.witness6 (enc := enc) (C := Try.checked) false ⟨#[], #[.agg #[.string .empty, .int .i64 0, .slice none 0 0], .agg #[.int .i64 0, .int .i64 0], .agg #[.int .i64 0, .int .i64 0]], []⟩ 8 (by kernel_rfl) (by kernel_rfl) (by kernel_rfl) (by kernel_rfl)) ?_
  intro W base args ds gs before hval0 hW hcnd _
  have hval : ∀ (j : Nat) t v, Try.f5.params[j]? = some t → args[j]? = some v → Value.okWide Try.prog W .any base t v := hval0
  have hW' := hW
  obtain ⟨p, q, hA0, hV, rfl, hfz, hnd⟩ := hW
  have hA : DataW.TrodAll enc Try.prog W 0 (fun _ => true) true Try.f5.params.toList args.toList ds p := hA0
  rw [Try.params5] at hA hval
  obtain ⟨v0, vs0, d0, ds0, p0, q0, hargs, rfl, rfl, h0, r0⟩ := trodAll_cons hA
  obtain ⟨v1, vs1, d1, ds1, p1, q1, rfl, rfl, rfl, h1, r1⟩ := trodAll_cons r0
  obtain ⟨v2, vs2, d2, ds2, p2, q2, rfl, rfl, rfl, h2, r2⟩ := trodAll_cons r1
  obtain ⟨rfl, rfl, rfl⟩ := trodAll_nil r2
  obtain rfl : args = #[v0, v1, v2] := by cases args; simp_all
  obtain ⟨rfl, rfl⟩ := trodVars_none hV
  obtain ⟨s0, b0, A0, ss0, c0, rfl, hs0, hb0, hat0, hl0, hm0, hn0⟩ := open_cask (hval 0 34 v0 rfl rfl) h0
  obtain ⟨a1, b1, rfl, w1, x1⟩ := open_two (hval 1 42 v1 rfl rfl) h1
  obtain ⟨a2, b2, rfl, w2, x2⟩ := open_two (hval 2 42 v2 rfl rfl) h2
  have hlt := hW'.lt
  simp only [List.append_nil] at hW' hlt
  refine (gaugeDeeper_walk W s0 b0 A0 ss0 c0 hs0 (wf_i64 hb0).1 (wf_i64 hb0).2 hat0 hl0 hn0 a1 b1 (wf_i64 w1).1 (wf_i64 w1).2 (wf_i64 x1).1 (wf_i64 x1).2 a2 b2 (wf_i64 w2).1 (wf_i64 w2).2 (wf_i64 x2).1 (wf_i64 x2).2).mono fun e W' ⟨he, hg⟩ => ?_
  subst he
  exact ⟨_, rfl, post_of_below (pv := []) hW' (fun _ _ _ => (trodAll_cons_mk (shut_bool Try.underlying4 _) trodAll_mk0)) (fun sp hsp => trodAll_stays (by kernel_rfl) hg (by rw [Try.params5]; decide +kernel) (by simp only [List.append_nil] at hA0 ⊢; exact hA0) hlt sp hsp) (fun _ _ => rfl) (by simp) hg (ok_one (by kernel_rfl) rfl (okWide_bool_mk Try.underlying4 _))⟩

theorem over : Rows.gaugeDeeperRow.holds Try.pinned (OpenSpec.ofChange Rows.gaugeDeeperSpec) :=
  OpenClaim.holds_of_wide 5 Try.f5 rfl rfl rfl rfl rfl rfl rfl ⟨rfl, rfl, rfl, rfl, rfl⟩ rfl rfl rfl rfl rfl (by kernel_rfl) Try.func5 (by kernel_rfl)
    (of_decide_eq_true (by kernel_rfl)) (by unfold Func.isWrapper; first | (rw [if_pos (by decide +kernel)]; kernel_rfl) | (rw [if_neg (by decide +kernel)]; exact ⟨rfl, rfl⟩))
    (fun os started H enc _ => lifted os started H enc)

theorem proved : Rows.GaugeDeeperSaid :=
  over
#print axioms proved
end Go.Proofs.Ytjfdjjekonkgjaa.gaugeDeeper
