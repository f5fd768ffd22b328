/-
  DERIVED. GIVEN WITH THE SEED: THE CARDS: each row of YtphenbjioenjfaaGreatDoorRows.lean that lists a variable, with what it lists TIED to the program's text (the seventh form; the later family's looks); each row that meets fmt, with fmt's text TOLD by the authors' own Lean function (tested against real Go, not proved from fmt's source: count such statements apart). THE CARD IS WHAT COUNTS. Prove the row's statement (the work); the ties are given (YtphenbjioenjfaaGreatDoorTie.lean); close each card by the builder's one call (the guide's Derived/Test/ToyasCard.lean, 'card_holds'). Laid BY PROGRAM, IN A SANDBOX (cutbox-door.mjs). By AI agents, Wed Nov 11 2026. No macro, syntax, notation, axiom, sorry.
-/
import Derived.Test.YtphenbjioenjfaaGreatDoorRows
import GoSem.ClaimSeven
namespace Go.Proofs.YtphenbjioenjfaaGreatDoor
namespace Rows

/-- THE TIED CARD OF 'criaderalaw05.CertifyLeast'. -/
def certifyLeastCard : Claim7 := { stood := { row := certifyLeastRow, standIns := [], harness := (true, "0c738bde084d9df86b3ae8613ebaf0269a3fb3d94cadb9bb5ad750948f2f4978"), looks := true }, kinds := [], alts := [], goes := true, laidByText := true, laidKinds := [.data, .data, .data, .data, .sentinel, .sentinel, .pinned], laidTests := true, laidLooks := .later }
def CertifyLeastCardSaid : Prop := Claim7.holds Tryz.pinned (.plain (OpenSpec.ofChange certifyLeastSpec)) certifyLeastCard

/-- THE SECOND FORM's CARD OF 'criaderalaw05.CertifyLeast'. -/
def certifyLeastUptoCard : Claim7 := { stood := { row := certifyLeastUptoRow, standIns := [], harness := (true, "0c738bde084d9df86b3ae8613ebaf0269a3fb3d94cadb9bb5ad750948f2f4978"), looks := true }, kinds := [], alts := [], goes := true, laidByText := true, laidKinds := [.data, .data, .data, .data, .sentinel, .sentinel, .pinned], laidTests := true, laidLooks := .later }
def CertifyLeastUptoCardSaid : Prop := Claim7.holds Tryz.pinned (.plain (OpenSpec.upto certifyLeastSpec)) certifyLeastUptoCard
end Rows
end Go.Proofs.YtphenbjioenjfaaGreatDoor
