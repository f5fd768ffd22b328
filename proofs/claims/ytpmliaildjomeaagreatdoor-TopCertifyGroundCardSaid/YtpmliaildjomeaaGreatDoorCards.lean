/-
  DERIVED. GIVEN WITH THE SEED: THE CARDS: each row of YtpmliaildjomeaaGreatDoorRows.lean that lists a variable, with what it lists TIED to the program's text (the seventh form; the later family's looks); each row that meets fmt, with fmt's text TOLD by the authors' own Lean function (tested against real Go, not proved from fmt's source: count such statements apart). THE CARD IS WHAT COUNTS. Prove the row's statement (the work); the ties are given (YtpmliaildjomeaaGreatDoorTie.lean); close each card by the builder's one call (the guide's Derived/Test/ToyasCard.lean, 'card_holds'). Laid BY PROGRAM, IN A SANDBOX (cutbox-door.mjs). By AI agents, Wed Nov 11 2026. No macro, syntax, notation, axiom, sorry.
-/
import Derived.Test.YtpmliaildjomeaaGreatDoorRows
import GoSem.ClaimSeven
namespace Go.Proofs.YtpmliaildjomeaaGreatDoor
namespace Rows

/-- THE TIED CARD OF 'criaderatop.TopCertifyGround'. -/
def topCertifyGroundCard : Claim7 := { stood := { row := topCertifyGroundRow, standIns := [], harness := (true, "c26a22082617bee69adc8f40f0058376e67fb6838754a5aaf24cedaa7eba34dc"), looks := true }, kinds := [], alts := [], laidByText := true, laidKinds := [.data, .data, .data, .data, .handle, .sentinel, .sentinel, .pinned], laidTests := true, laidLooks := .later }
def TopCertifyGroundCardSaid : Prop := Claim7.holds Tryz.pinned (.plain (OpenSpec.ofChange topCertifyGroundSpec)) topCertifyGroundCard

/-- THE SECOND FORM's CARD OF 'criaderatop.TopCertifyGround'. -/
def topCertifyGroundUptoCard : Claim7 := { stood := { row := topCertifyGroundUptoRow, standIns := [], harness := (true, "c26a22082617bee69adc8f40f0058376e67fb6838754a5aaf24cedaa7eba34dc"), looks := true }, kinds := [], alts := [], laidByText := true, laidKinds := [.data, .data, .data, .data, .handle, .sentinel, .sentinel, .pinned], laidTests := true, laidLooks := .later }
def TopCertifyGroundUptoCardSaid : Prop := Claim7.holds Tryz.pinned (.plain (OpenSpec.upto topCertifyGroundSpec)) topCertifyGroundUptoCard
end Rows
end Go.Proofs.YtpmliaildjomeaaGreatDoor
