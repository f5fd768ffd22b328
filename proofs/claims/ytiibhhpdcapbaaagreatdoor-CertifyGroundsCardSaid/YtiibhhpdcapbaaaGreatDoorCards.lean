/-
  DERIVED. GIVEN WITH THE SEED: THE CARDS: each row of YtiibhhpdcapbaaaGreatDoorRows.lean that lists a variable, with what it lists TIED to the program's text (the seventh form; the later family's looks); each row that meets fmt, with fmt's text TOLD by the authors' own Lean function (tested against real Go, not proved from fmt's source: count such statements apart). THE CARD IS WHAT COUNTS. Prove the row's statement (the work); the ties are given (YtiibhhpdcapbaaaGreatDoorTie.lean); close each card by the builder's one call (the guide's Derived/Test/ToyasCard.lean, 'card_holds'). Laid BY PROGRAM, IN A SANDBOX (cutbox-door.mjs). By AI agents, Wed Nov 11 2026. No macro, syntax, notation, axiom, sorry.
-/
import Derived.Test.YtiibhhpdcapbaaaGreatDoorRows
import GoSem.ClaimSeven
namespace Go.Proofs.YtiibhhpdcapbaaaGreatDoor
namespace Rows

/-- THE TIED CARD OF 'criaderalaw05.CertifyGrounds'. -/
def certifyGroundsCard : Claim7 := { stood := { row := certifyGroundsRow, standIns := [], harness := (true, "15059e5d434b290204280f72d85f09f392a5fcb1dc2644dcbbc8d2fc4d6ec997"), looks := true }, kinds := [], alts := [], goes := true, laidByText := true, laidKinds := [.data, .data, .data, .data, .sentinel, .sentinel, .pinned], laidTests := true, laidLooks := .later }
def CertifyGroundsCardSaid : Prop := Claim7.holds Tryz.pinned (.plain (OpenSpec.ofChange certifyGroundsSpec)) certifyGroundsCard

/-- THE SECOND FORM's CARD OF 'criaderalaw05.CertifyGrounds'. -/
def certifyGroundsUptoCard : Claim7 := { stood := { row := certifyGroundsUptoRow, standIns := [], harness := (true, "15059e5d434b290204280f72d85f09f392a5fcb1dc2644dcbbc8d2fc4d6ec997"), looks := true }, kinds := [], alts := [], goes := true, laidByText := true, laidKinds := [.data, .data, .data, .data, .sentinel, .sentinel, .pinned], laidTests := true, laidLooks := .later }
def CertifyGroundsUptoCardSaid : Prop := Claim7.holds Tryz.pinned (.plain (OpenSpec.upto certifyGroundsSpec)) certifyGroundsUptoCard
end Rows
end Go.Proofs.YtiibhhpdcapbaaaGreatDoor
