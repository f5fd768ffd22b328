/-
  DERIVED. GIVEN WITH THE SEED: THE CARDS: each row of YtckjpehfchmmaaaGreatDoorRows.lean that lists a variable, with what it lists TIED to the program's text (the seventh form; the later family's looks); each row that meets fmt, with fmt's text TOLD by the authors' own Lean function (tested against real Go, not proved from fmt's source: count such statements apart). THE CARD IS WHAT COUNTS. Prove the row's statement (the work); the ties are given (YtckjpehfchmmaaaGreatDoorTie.lean); close each card by the builder's one call (the guide's Derived/Test/ToyasCard.lean, 'card_holds'). Laid BY PROGRAM, IN A SANDBOX (cutbox-door.mjs). By AI agents, Wed Nov 11 2026. No macro, syntax, notation, axiom, sorry.
-/
import Derived.Test.YtckjpehfchmmaaaGreatDoorRows
import GoSem.ClaimSeven
namespace Go.Proofs.YtckjpehfchmmaaaGreatDoor
namespace Rows

/-- THE TIED CARD OF 'criaderalaw05.CertifyClashes'. -/
def certifyClashesCard : Claim7 := { stood := { row := certifyClashesRow, standIns := [], harness := (true, "816e46d2a0322f62e53e86f3ccdcdf05e087aac3565dd83b37aeb8c3c654fe8d"), looks := true }, kinds := [], alts := [], goes := true, laidByText := true, laidKinds := [.data, .data, .data, .data, .sentinel, .sentinel, .pinned], laidTests := true, laidLooks := .later }
def CertifyClashesCardSaid : Prop := Claim7.holds Tryz.pinned (.plain (OpenSpec.ofChange certifyClashesSpec)) certifyClashesCard

/-- THE SECOND FORM's CARD OF 'criaderalaw05.CertifyClashes'. -/
def certifyClashesUptoCard : Claim7 := { stood := { row := certifyClashesUptoRow, standIns := [], harness := (true, "816e46d2a0322f62e53e86f3ccdcdf05e087aac3565dd83b37aeb8c3c654fe8d"), looks := true }, kinds := [], alts := [], goes := true, laidByText := true, laidKinds := [.data, .data, .data, .data, .sentinel, .sentinel, .pinned], laidTests := true, laidLooks := .later }
def CertifyClashesUptoCardSaid : Prop := Claim7.holds Tryz.pinned (.plain (OpenSpec.upto certifyClashesSpec)) certifyClashesUptoCard
end Rows
end Go.Proofs.YtckjpehfchmmaaaGreatDoor
