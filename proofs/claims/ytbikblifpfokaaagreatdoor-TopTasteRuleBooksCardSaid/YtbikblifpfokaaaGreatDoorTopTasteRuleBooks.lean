/- TopTasteRuleBooks of criaderatop returns true at every input: a rule book and its least one are never told apart; two rule books are alike just if their least ones have the same marks, and walks that lead to classes of the same ranks; a sheet that was told as a text is marked alike by both. The tied card. Conditions: the listed package-level variables of the library start as the program's text lays them (the card ties them to the pruned copy of the project); the limits stand in the law itself. -/
import Derived.Test.YtbikblifpfokaaaGreatDoorRows
import Derived.Test.YtbikblifpfokaaaGreatDoorCards
import Derived.Test.YtbikblifpfokaaaGreatDoorTie
import Derived.Test.YtbikblifpfokaaaGreatDoorMg32
import Derived.Test.YtbikblifpfokaaaGreatDoorMg7
import Derived.WalkKit
import Derived.ProofKit
import Derived.OpenShut
import Derived.SevenTiedAt
set_option linter.unusedSimpArgs false
set_option linter.unusedVariables false
namespace Go.Proofs.YtbikblifpfokaaaGreatDoor.topTasteRuleBooks
open Go Go.ChangeShapes Go.WideShapes Go.ChangeAt Go.RowKit

theorem own : ownKnob Tryz.prog.godebug = none := by kernel_rfl

set_option maxRecDepth 100000 in
theorem lifted (os : Os) (started : os.Started) (H : Type) (enc : TypeId × Value → H) :
    ReturnsInHanded {} Tryz.checked os 3 .any (fun w args => (Rows.topTasteRuleBooksSpec.pre enc Tryz.prog Tryz.f3 [] false w args ∧ laidMetH Tryz.prog Rows.topTasteRuleBooksRow.laid w) ∧ sizedMet enc Tryz.prog Tryz.f3 (OpenSpec.ofChange Rows.topTasteRuleBooksSpec) false w args)
      (Rows.topTasteRuleBooksSpec.post enc Tryz.prog Tryz.f3 false true false false) := by
  refine of_change_and_shaped (C := Tryz.checked) (X := fun w _ => laidMetH Tryz.prog Rows.topTasteRuleBooksRow.laid w) (fun _ _ _ hh h => h.of_heap hh) own started (by kernel_rfl) Tryz.func3
    (ChangeSpec.witness_shaped (enc := enc) (C := Tryz.checked) (os := os) (X := fun w _ => laidMetH Tryz.prog Rows.topTasteRuleBooksRow.laid w) false (World.laidAll Tryz.prog os Rows.topTasteRuleBooksRow.laid) #[.agg #[.slice none 0 0, .int .i64 0, .slice none 0 0], .agg #[.slice none 0 0, .int .i64 0, .slice none 0 0], .slice none 0 0] 8 (World.laidAll_os _ _ _)
      (World.shaped_of_ZipB (by kernel_rfl) (by kernel_rfl)) (by kernel_rfl) (by kernel_rfl) (by kernel_rfl)
      (by rw [MakeChecks.laidMetH_plain _ _ _ (by kernel_rfl)]; exact laidMet_laidAll _ (by kernel_rfl) (by kernel_rfl))) ?_
  intro W base args ds gs before hval0 hW hL hsh
  have hval : ∀ (j : Nat) t v, Tryz.f3.params[j]? = some t → args[j]? = some v → Value.okWide Tryz.prog W .any base t v := hval0
  have hW' := hW
  obtain ⟨p, q, hA0, hV, rfl, hfz, hnd⟩ := hW
  have hA : DataW.TrodAll enc Tryz.prog W 0 (fun _ => true) true Tryz.f3.params.toList args.toList ds p := hA0
  rw [Tryz.params3] at hA hval
  obtain ⟨v0, vs0, d0, ds0, p0, q0, hargs, rfl, rfl, h0, r0⟩ := trodAll_cons hA
  obtain ⟨v1, vs1, d1, ds1, p1, q1, rfl, rfl, rfl, h1, r1⟩ := trodAll_cons r0
  obtain ⟨v2, vs2, d2, ds2, p2, q2, rfl, rfl, rfl, h2, r2⟩ := trodAll_cons r1
  obtain ⟨rfl, rfl, rfl⟩ := trodAll_nil r2
  obtain rfl : args = #[v0, v1, v2] := by cases args; simp_all
  obtain ⟨rfl, rfl⟩ := trodVars_none hV
  obtain ⟨mA, cA, mk, cl, mc, cc, bg, rfl, hat, hmc, hsz, hml⟩ := open_bookT (hval 0 25 v0 rfl rfl) h0
  obtain ⟨mA2, cA2, mk2, cl2, mc2, cc2, bg2, rfl, hat2, hmc2, hsz2, hml2⟩ := open_bookT (hval 1 25 v1 rfl rfl) h1
  obtain ⟨B, l, cB, rfl, hatl⟩ := open_marksT (hval 2 26 v2 rfl rfl) h2
  have hlt := hW'.lt
  simp only [List.append_nil] at hW' hlt
  refine (taste_walk W mA cA mA2 cA2 mk mk2 cl cl2 mc cc mc2 cc2 bg bg2 hat hmc hsz hat2 hmc2 hsz2 hml hml2 B l cB hatl).mono fun e W' ⟨he, hg⟩ => ?_
  subst he
  exact ⟨_, rfl, post_of_below (pv := []) hW' (fun _ _ _ => (trodAll_cons_mk (shut_bool Tryz.underlying4 _) trodAll_mk0)) (fun sp hsp => trodAll_stays (by kernel_rfl) hg (by rw [Tryz.params3]; decide +kernel) (by simp only [List.append_nil] at hA0 ⊢; exact hA0) hlt sp hsp) (fun _ _ => rfl) (by simp) hg (ok_one (by kernel_rfl) rfl (okWide_bool_mk Tryz.underlying4 _))⟩

theorem over : Rows.topTasteRuleBooksRow.holds Tryz.pinned (OpenSpec.ofChange Rows.topTasteRuleBooksSpec) :=
  OpenClaim.holds_of_wide 3 Tryz.f3 rfl rfl rfl rfl rfl rfl rfl ⟨rfl, rfl, rfl, rfl, rfl⟩ rfl rfl rfl rfl rfl (by kernel_rfl) Tryz.func3 (by kernel_rfl)
    (of_decide_eq_true (by kernel_rfl)) (by unfold Func.isWrapper; first | (rw [if_pos (by decide +kernel)]; kernel_rfl) | (rw [if_neg (by decide +kernel)]; exact ⟨rfl, rfl⟩))
    (fun os started H enc _ => lifted os started H enc)

theorem proved : Rows.TopTasteRuleBooksCardSaid :=
  Claim7.holds_tied_plain_at .later [] [.data, .data, .data, .data, .sentinel, .sentinel, .pinned] true (true, "08b3028458308092c6f1aee1a958b31cf2553a6b3702161018d0f4631beb3b85") true
    over (fun _ h => by cases h) (by kernel_rfl) (fun _ h => by cases h) topTasteRuleBooks_row_tie rfl ⟨rfl, rfl⟩ (by kernel_rfl) rfl
    (fun f fn hf hfn => by
      obtain rfl : f = 3 := Option.some.inj ((show Tryz.prog.funcNamed "criadera/criaderatop.TopTasteRuleBooks" = some 3 by kernel_rfl).symm.trans hf) |>.symm
      obtain rfl : fn = Tryz.f3 := (Option.some.inj (Tryz.func3.symm.trans hfn)).symm
      exact ⟨by kernel_rfl, fun j t ht => by
        rw [Tryz.params3] at ht
        have hm : t ∈ [25, 25, 26] := by simpa using Array.mem_of_getElem? ht
        have hall : ([25, 25, 26].all fun u => !Tryz.prog.wantsStandIn u) = true := by kernel_rfl
        exact (show Tryz.prog.wantsStandIn t = false by simpa using List.all_eq_true.1 hall t hm)⟩)
    (by kernel_rfl)
#print axioms proved
end Go.Proofs.YtbikblifpfokaaaGreatDoor.topTasteRuleBooks
