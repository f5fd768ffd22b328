/- TopCertifyGround of criaderatop returns true at every input: the certificate that a book issues, with its text written and read, and the book's own text written and read, is right of the book with no other entries than it hangs on; and the least ground of its value is no more than these. The tied card. Conditions: the listed package-level variables of the library start as the program's text lays them (the card ties them to the pruned copy of the project); the limits stand in the law itself. -/
import Derived.Test.YtpmliaildjomeaaGreatDoorRows
import Derived.Test.YtpmliaildjomeaaGreatDoorCards
import Derived.Test.YtpmliaildjomeaaGreatDoorTie
import Derived.Test.YtpmliaildjomeaaGreatDoorMg42
import Derived.Test.YtpmliaildjomeaaGreatDoorMg30
import Derived.WalkKit
import Derived.ProofKit
import Derived.OpenShut
import Derived.SevenTiedAt
import Derived.LaidSub
import Derived.LaidHandle
set_option linter.unusedSimpArgs false
set_option linter.unusedVariables false
namespace Go.Proofs.YtpmliaildjomeaaGreatDoor.topCertifyGround
open Go Go.ChangeShapes Go.WideShapes Go.ChangeAt Go.RowKit

theorem own : ownKnob Tryz.prog.godebug = none := by kernel_rfl

/-- What the row lists, but for the handle. -/
def plainL : List (String × DataW Unit) := Rows.topCertifyGroundRow.laid.filter fun x => x.2.handleName?.isNone
/-- A world that meets the condition: the settled one, the handle's cell laid, and then the data. -/
noncomputable def w1 (os : Os) : World :=
  let w0 := World.holding Tryz.prog os ⟨#[], #[], []⟩
  { w0 with heap := w0.heap.modify 0 fun
      | .cells _ t frozen => .cells #[.iface 179 (.agg #[.pointer (some ⟨9, 95, none⟩)])] t frozen
      | o => o }
noncomputable def w2 (os : Os) : World := (w1 os).layVars Tryz.prog plainL
theorem w2_os (os : Os) : (w2 os).os = os := (World.layVars_os _ _ _).trans rfl
theorem plain_met (os : Os) (args : Array Value) : laidMet Tryz.prog plainL ((w2 os).forCall (fun _ _ => 0) ⟨#[], args, []⟩).memory := by
  have e1 : (plainL.filter fun x => (plainL.map (·.1)).contains x.1) = plainL := List.filter_eq_self.2 fun x hx => List.contains_iff_mem.2 (List.mem_map.2 ⟨x, hx, rfl⟩)
  have e2 : (plainL.filter fun x => !(plainL.map (·.1)).contains x.1) = [] := List.filter_eq_nil_iff.2 fun x hx => by rw [List.contains_iff_mem.2 (List.mem_map.2 ⟨x, hx, rfl⟩)]; simp
  have h : laidMet Tryz.prog plainL (w2 os) := laidMet_layVars (w0 := w1 os) (plainL.map (·.1)) [] (by rw [e1]; rfl) (by rw [e1]; kernel_rfl) (by rw [e1]; kernel_rfl) (by rw [e2]; exact LaidIn.none)
  exact h.of_heap (by simp [World.memory, World.forCall, Input.heap])
theorem laid_met (os : Os) (args : Array Value) : laidMetH Tryz.prog Rows.topCertifyGroundRow.laid ((w2 os).forCall (fun _ _ => 0) ⟨#[], args, []⟩).memory :=
  laidMetH_of_parts (plain_met os args) (by kernel_rfl)
theorem tabs_of {W : World} (hL : laidMet Tryz.prog plainL W) (hsh : W.ShapedOpen Tryz.prog) : Tabs W := by
  have r1 := Lib.laidMet.reads hL (n := "internal/strconv.uint64pow10") (d := Rows.laid_internal_strconv_uint64pow10) (.tail _ (.tail _ (.head _)))
  have e1 : (Rows.laid_internal_strconv_uint64pow10 : DataW Unit) = Lib.tabData .u64 Lib.pow10Tab := by kernel_rfl
  rw [e1] at r1
  refine ⟨tabIs_of_reads (g := 6) (t := 237) (e := 216) (n := 20) (by kernel_rfl) (by kernel_rfl) Tryz.underlying237 Tryz.underlying216 (by kernel_rfl) (by kernel_rfl) r1, ?_⟩
  exact Go.Proofs.cell_of_shapedOpen_int (g := 1) (zero := #[.int .i64 0]) (t := 3) hsh (of_decide_eq_true (by kernel_rfl)) (by kernel_rfl) rfl (by kernel_rfl) (by kernel_rfl) Tryz.underlying3

set_option maxRecDepth 100000 in
theorem lifted (os : Os) (started : os.Started) (H : Type) (enc : TypeId × Value → H) :
    ReturnsInHanded {} Tryz.checked os 3 .any (fun w args => (Rows.topCertifyGroundSpec.pre enc Tryz.prog Tryz.f3 [] false w args ∧ laidMetH Tryz.prog Rows.topCertifyGroundRow.laid w) ∧ sizedMet enc Tryz.prog Tryz.f3 (OpenSpec.ofChange Rows.topCertifyGroundSpec) false w args)
      (Rows.topCertifyGroundSpec.post enc Tryz.prog Tryz.f3 false true false false) := by
  refine of_change_and_shaped (C := Tryz.checked) (X := fun w _ => laidMetH Tryz.prog Rows.topCertifyGroundRow.laid w) (fun _ _ _ hh h => h.of_heap hh) own started (by kernel_rfl) Tryz.func3
    (ChangeSpec.witness_shaped (enc := enc) (C := Tryz.checked) (os := os) (X := fun w _ => laidMetH Tryz.prog Rows.topCertifyGroundRow.laid w) false (w2 os) #[.agg #[.slice none 0 0, .slice none 0 0], .agg #[.int .i64 0, .int .i64 0]] 8 (w2_os os)
      (World.shaped_of_ZipB (by kernel_rfl) (by kernel_rfl)) (by kernel_rfl) (by kernel_rfl) (by kernel_rfl)
      (laid_met os _)) ?_
  intro W base args ds gs before hval0 hW hL hsh
  have hval : ∀ (j : Nat) t v, Tryz.f3.params[j]? = some t → args[j]? = some v → Value.okWide Tryz.prog W .any base t v := hval0
  have hW' := hW
  obtain ⟨p, q, hA0, hV, rfl, hfz, hnd⟩ := hW
  have hA : DataW.TrodAll enc Tryz.prog W 0 (fun _ => true) true Tryz.f3.params.toList args.toList ds p := hA0
  rw [Tryz.params3] at hA hval
  obtain ⟨v0, vs0, d0, ds0, p0, q0, hargs, rfl, rfl, h0, r0⟩ := trodAll_cons hA
  obtain ⟨v1, vs1, d1, ds1, p1, q1, rfl, rfl, rfl, h1, r1⟩ := trodAll_cons r0
  obtain ⟨rfl, rfl, rfl⟩ := trodAll_nil r1
  obtain rfl : args = #[v0, v1] := by cases args; simp_all
  obtain ⟨rfl, rfl⟩ := trodVars_none hV
  obtain ⟨pA, eA, ps, es, pc, ec, rfl, hB⟩ := open_bookC (hval 0 25 v0 rfl rfl) h0
  obtain ⟨k, ag, rfl⟩ := open_askC (hval 1 27 v1 rfl rfl) h1
  have hlt := hW'.lt
  simp only [List.append_nil] at hW' hlt
  have ht := tabs_of (laidMetH_iff.1 hL).1 hsh
  refine (topGround_any pA eA pc ec ps.length es.length ps es k ag W hB rfl rfl ht).mono fun e W' ⟨he, hg⟩ => ?_
  subst he
  exact ⟨_, rfl, post_of_below (pv := []) hW' (fun _ _ _ => (trodAll_cons_mk (shut_bool Tryz.underlying4 _) trodAll_mk0)) (fun sp hsp => trodAll_stays (by kernel_rfl) hg (by rw [Tryz.params3]; decide +kernel) (by simp only [List.append_nil] at hA0 ⊢; exact hA0) hlt sp hsp) (fun _ _ => rfl) (by simp) hg (ok_one (by kernel_rfl) rfl (okWide_bool_mk Tryz.underlying4 _))⟩

theorem over : Rows.topCertifyGroundRow.holds Tryz.pinned (OpenSpec.ofChange Rows.topCertifyGroundSpec) :=
  OpenClaim.holds_of_wide 3 Tryz.f3 rfl rfl rfl rfl rfl rfl rfl ⟨rfl, rfl, rfl, rfl, rfl⟩ rfl rfl rfl rfl rfl (by kernel_rfl) Tryz.func3 (by kernel_rfl)
    (of_decide_eq_true (by kernel_rfl)) (by unfold Func.isWrapper; first | (rw [if_pos (by decide +kernel)]; kernel_rfl) | (rw [if_neg (by decide +kernel)]; exact ⟨rfl, rfl⟩))
    (fun os started H enc _ => lifted os started H enc)

theorem proved : Rows.TopCertifyGroundCardSaid :=
  Claim7.holds_tied_plain_at .later [] [.data, .data, .data, .data, .handle, .sentinel, .sentinel, .pinned] true (true, "c26a22082617bee69adc8f40f0058376e67fb6838754a5aaf24cedaa7eba34dc") true
    over (fun _ h => by cases h) (by kernel_rfl) (fun _ h => by cases h) topCertifyGround_row_tie rfl ⟨rfl, rfl⟩ (by kernel_rfl) rfl
    (fun f fn hf hfn => by
      obtain rfl : f = 3 := Option.some.inj ((show Tryz.prog.funcNamed "criadera/criaderatop.TopCertifyGround" = some 3 by kernel_rfl).symm.trans hf) |>.symm
      obtain rfl : fn = Tryz.f3 := (Option.some.inj (Tryz.func3.symm.trans hfn)).symm
      exact ⟨by kernel_rfl, fun j t ht => by
        rw [Tryz.params3] at ht
        have hm : t ∈ [25, 27] := by simpa using Array.mem_of_getElem? ht
        have hall : ([25, 27].all fun u => !Tryz.prog.wantsStandIn u) = true := by kernel_rfl
        exact (show Tryz.prog.wantsStandIn t = false by simpa using List.all_eq_true.1 hall t hm)⟩)
    (by kernel_rfl)
#print axioms proved
end Go.Proofs.YtpmliaildjomeaaGreatDoor.topCertifyGround
