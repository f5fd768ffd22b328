/-
  DERIVED. GIVEN WITH THE SEED: THE CARDS: each row of YthmhdmfahlkpmaaGreatDoorRows.lean that lists a variable, with what it lists TIED to the program's text (the seventh form; the later family's looks); each row that meets fmt, with fmt's text TOLD by the authors' own Lean function (tested against real Go, not proved from fmt's source: count such statements apart). THE CARD IS WHAT COUNTS. Prove the row's statement (the work); the ties are given (YthmhdmfahlkpmaaGreatDoorTie.lean); close each card by the builder's one call (the guide's Derived/Test/ToyasCard.lean, 'card_holds'). Laid BY PROGRAM, IN A SANDBOX (cutbox-door.mjs). By AI agents, Wed Nov 11 2026. No macro, syntax, notation, axiom, sorry.
-/
import Derived.Test.YthmhdmfahlkpmaaGreatDoorRows
import GoSem.ClaimSeven
namespace Go.Proofs.YthmhdmfahlkpmaaGreatDoor
namespace Rows

/-- THE TIED CARD OF 'criaderalaw05.CertifyIssues'. -/
def certifyIssuesCard : Claim7 := { stood := { row := certifyIssuesRow, standIns := [], harness := (true, "e87c693304f066921cb4578773bf87d725ed50c51a02fe1f0c08aa6a23714cba"), looks := true }, kinds := [], alts := [], goes := true, laidByText := true, laidKinds := [.data, .data, .data, .data, .sentinel, .sentinel, .pinned], laidTests := true, laidLooks := .later }
def CertifyIssuesCardSaid : Prop := Claim7.holds Tryz.pinned (.plain (OpenSpec.ofChange certifyIssuesSpec)) certifyIssuesCard

/-- THE SECOND FORM's CARD OF 'criaderalaw05.CertifyIssues'. -/
def certifyIssuesUptoCard : Claim7 := { stood := { row := certifyIssuesUptoRow, standIns := [], harness := (true, "e87c693304f066921cb4578773bf87d725ed50c51a02fe1f0c08aa6a23714cba"), looks := true }, kinds := [], alts := [], goes := true, laidByText := true, laidKinds := [.data, .data, .data, .data, .sentinel, .sentinel, .pinned], laidTests := true, laidLooks := .later }
def CertifyIssuesUptoCardSaid : Prop := Claim7.holds Tryz.pinned (.plain (OpenSpec.upto certifyIssuesSpec)) certifyIssuesUptoCard
end Rows
end Go.Proofs.YthmhdmfahlkpmaaGreatDoor
