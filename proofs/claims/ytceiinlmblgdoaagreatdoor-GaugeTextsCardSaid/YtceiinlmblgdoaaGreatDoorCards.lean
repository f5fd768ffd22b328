/-
  DERIVED. GIVEN WITH THE SEED: THE CARDS: each row of YtceiinlmblgdoaaGreatDoorRows.lean that lists a variable, with what it lists TIED to the program's text (the seventh form; the later family's looks); each row that meets fmt, with fmt's text TOLD by the authors' own Lean function (tested against real Go, not proved from fmt's source: count such statements apart). THE CARD IS WHAT COUNTS. Prove the row's statement (the work); the ties are given (YtceiinlmblgdoaaGreatDoorTie.lean); close each card by the builder's one call (the guide's Derived/Test/ToyasCard.lean, 'card_holds'). Laid BY PROGRAM, IN A SANDBOX (cutbox-door.mjs). By AI agents, Wed Nov 11 2026. No macro, syntax, notation, axiom, sorry.
-/
import Derived.Test.YtceiinlmblgdoaaGreatDoorRows
import GoSem.ClaimSeven
namespace Go.Proofs.YtceiinlmblgdoaaGreatDoor
namespace Rows

/-- THE TIED CARD OF 'criaderalaw04.GaugeTexts'. -/
def gaugeTextsCard : Claim7 := { stood := { row := gaugeTextsRow, standIns := [], harness := (true, "494ff217438f75007f7e4c53cd1b9e7d48ab5a14b54b6f73e0b9d61586eb8139"), looks := true }, kinds := [], alts := [], laidByText := true, laidKinds := [.data, .data, .data, .data, .sentinel, .sentinel, .pinned], laidTests := true, laidLooks := .later }
def GaugeTextsCardSaid : Prop := Claim7.holds Tryz.pinned (.plain (OpenSpec.ofChange gaugeTextsSpec)) gaugeTextsCard

/-- THE SECOND FORM's CARD OF 'criaderalaw04.GaugeTexts'. -/
def gaugeTextsUptoCard : Claim7 := { stood := { row := gaugeTextsUptoRow, standIns := [], harness := (true, "494ff217438f75007f7e4c53cd1b9e7d48ab5a14b54b6f73e0b9d61586eb8139"), looks := true }, kinds := [], alts := [], laidByText := true, laidKinds := [.data, .data, .data, .data, .sentinel, .sentinel, .pinned], laidTests := true, laidLooks := .later }
def GaugeTextsUptoCardSaid : Prop := Claim7.holds Tryz.pinned (.plain (OpenSpec.upto gaugeTextsSpec)) gaugeTextsUptoCard
end Rows
end Go.Proofs.YtceiinlmblgdoaaGreatDoor
