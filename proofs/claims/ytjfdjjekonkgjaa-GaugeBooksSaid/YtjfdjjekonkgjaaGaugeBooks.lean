/- The law GaugeBooks of criaderalaw04 returns true for every book, every name and every two days, without any condition: which books are right, with the error's place, and the net of a cask, or the errors, are as specified (books of few entries; of others it says nothing). -/
import Derived.Test.YtjfdjjekonkgjaaRows
import Derived.Test.YtjfdjjekonkgjaaCg
import Derived.Test.YtjfdjjekonkgjaaOpen
import Derived.Test.YtjfdjjekonkgjaaOp2
import Derived.WalkKit
import Derived.ProofKit
import Derived.OpenShut
set_option linter.unusedSimpArgs false
set_option linter.unusedVariables false
namespace Go.Proofs.Ytjfdjjekonkgjaa.gaugeBooks
open Go.ChangeShapes Go.WideShapes Go.ChangeAt Go.RowKit

theorem own : ownKnob Try.prog.godebug = none := by kernel_rfl

set_option maxRecDepth 100000 in
theorem lifted (os : Os) (started : os.Started) (H : Type) (enc : TypeId × Value → H) :
    ReturnsInHanded {} Try.checked os 6 .any (Rows.gaugeBooksSpec.pre6 enc Try.prog Try.f6 Rows.gaugeBooksRow.domain false) (Rows.gaugeBooksSpec.post enc Try.prog Try.f6 false true false false) := by
  refine returnsInHanded_of_change (C := Try.checked) own started (by kernel_rfl) Try.func6
    (ChangeSpec.witness6 (enc := enc) (C := Try.checked) false ⟨#[], #[.agg #[.int .i64 0, .int .i64 0, .slice none 0 0, .slice none 0 0], .string .empty, .agg #[.int .i64 0, .int .i64 0]], []⟩ 8 (by kernel_rfl) (by kernel_rfl) (by kernel_rfl) (by kernel_rfl)) ?_
  intro W base args ds gs before hval0 hW hcnd _
  have hval : ∀ (j : Nat) t v, Try.f6.params[j]? = some t → args[j]? = some v → Value.okWide Try.prog W .any base t v := hval0
  have hW' := hW
  obtain ⟨p, q, hA0, hV, rfl, hfz, hnd⟩ := hW
  have hA : DataW.TrodAll enc Try.prog W 0 (fun _ => true) true Try.f6.params.toList args.toList ds p := hA0
  rw [Try.params6] at hA hval
  obtain ⟨v0, vs0, d0, ds0, p0, q0, hargs, rfl, rfl, h0, r0⟩ := trodAll_cons hA
  obtain ⟨v1, vs1, d1, ds1, p1, q1, rfl, rfl, rfl, h1, r1⟩ := trodAll_cons r0
  obtain ⟨v2, vs2, d2, ds2, p2, q2, rfl, rfl, rfl, h2, r2⟩ := trodAll_cons r1
  obtain ⟨rfl, rfl, rfl⟩ := trodAll_nil r2
  obtain rfl : args = #[v0, v1, v2] := by cases args; simp_all
  obtain ⟨rfl, rfl⟩ := trodVars_none hV
  obtain ⟨l0, m0, A0, B0, rs0, ms0, c0, e0, rfl, w0, x0, f0, g0, -, i0, j0, k0, n0, -, o0, u0⟩ := open_book (hval 0 49 v0 rfl rfl) h0
  obtain ⟨s1, rfl, -, -, hs1⟩ := Go.ChangeMaps.open_string Try.underlying9 (hval 1 9 v1 rfl rfl) h1
  obtain ⟨a2, b2, rfl, w2, x2⟩ := open_two (hval 2 42 v2 rfl rfl) h2
  have hlt := hW'.lt
  simp only [List.append_nil] at hW' hlt
  refine (gaugeBooks_walk W l0 m0 A0 B0 rs0 ms0 c0 e0 (wf_i64 w0).1 (wf_i64 w0).2 (wf_i64 x0).1 (wf_i64 x0).2 f0 g0 i0 j0 k0 n0 o0 u0 s1 hs1 a2 b2 (wf_i64 w2).1 (wf_i64 w2).2 (wf_i64 x2).1 (wf_i64 x2).2).mono fun e W' ⟨he, hg⟩ => ?_
  subst he
  exact ⟨_, rfl, post_of_below (pv := []) hW' (fun _ _ _ => (trodAll_cons_mk (shut_bool Try.underlying4 _) trodAll_mk0)) (fun sp hsp => trodAll_stays (by kernel_rfl) hg (by rw [Try.params6]; decide +kernel) (by simp only [List.append_nil] at hA0 ⊢; exact hA0) hlt sp hsp) (fun _ _ => rfl) (by simp) hg (ok_one (by kernel_rfl) rfl (okWide_bool_mk Try.underlying4 _))⟩

theorem over : Rows.gaugeBooksRow.holds Try.pinned (OpenSpec.ofChange Rows.gaugeBooksSpec) :=
  OpenClaim.holds_of_wide 6 Try.f6 rfl rfl rfl rfl rfl rfl rfl ⟨rfl, rfl, rfl, rfl, rfl⟩ rfl rfl rfl rfl rfl (by kernel_rfl) Try.func6 (by kernel_rfl)
    (of_decide_eq_true (by kernel_rfl)) (by unfold Func.isWrapper; first | (rw [if_pos (by decide +kernel)]; kernel_rfl) | (rw [if_neg (by decide +kernel)]; exact ⟨rfl, rfl⟩))
    (fun os started H enc _ => lifted os started H enc)

theorem proved : Rows.GaugeBooksSaid :=
  over
#print axioms proved
end Go.Proofs.Ytjfdjjekonkgjaa.gaugeBooks
