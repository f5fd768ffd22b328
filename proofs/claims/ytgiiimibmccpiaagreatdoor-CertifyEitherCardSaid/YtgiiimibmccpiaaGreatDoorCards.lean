/-
  DERIVED. GIVEN WITH THE SEED: THE CARDS: each row of YtgiiimibmccpiaaGreatDoorRows.lean that lists a variable, with what it lists TIED to the program's text (the seventh form; the later family's looks); each row that meets fmt, with fmt's text TOLD by the authors' own Lean function (tested against real Go, not proved from fmt's source: count such statements apart). THE CARD IS WHAT COUNTS. Prove the row's statement (the work); the ties are given (YtgiiimibmccpiaaGreatDoorTie.lean); close each card by the builder's one call (the guide's Derived/Test/ToyasCard.lean, 'card_holds'). Laid BY PROGRAM, IN A SANDBOX (cutbox-door.mjs). By AI agents, Wed Nov 11 2026. No macro, syntax, notation, axiom, sorry.
-/
import Derived.Test.YtgiiimibmccpiaaGreatDoorRows
import GoSem.ClaimSeven
namespace Go.Proofs.YtgiiimibmccpiaaGreatDoor
namespace Rows

/-- THE TIED CARD OF 'criaderalaw05.CertifyLeast'. -/
def certifyLeastCard : Claim7 := { stood := { row := certifyLeastRow, standIns := [], harness := (true, "440a601e8dafa1681c3632775278ab1ef52b44982ea2370c811e9f285af9225a"), looks := true }, kinds := [], alts := [], goes := true, laidByText := true, laidKinds := [.data, .data, .data, .data, .sentinel, .sentinel, .pinned], laidTests := true, laidLooks := .later }
def CertifyLeastCardSaid : Prop := Claim7.holds Tryz.pinned (.plain (OpenSpec.ofChange certifyLeastSpec)) certifyLeastCard

/-- THE TIED CARD OF 'criaderalaw05.CertifyIssues'. -/
def certifyIssuesCard : Claim7 := { stood := { row := certifyIssuesRow, standIns := [], harness := (true, "440a601e8dafa1681c3632775278ab1ef52b44982ea2370c811e9f285af9225a"), looks := true }, kinds := [], alts := [], goes := true, laidByText := true, laidKinds := [.data, .data, .data, .data, .sentinel, .sentinel, .pinned], laidTests := true, laidLooks := .later }
def CertifyIssuesCardSaid : Prop := Claim7.holds Tryz.pinned (.plain (OpenSpec.ofChange certifyIssuesSpec)) certifyIssuesCard

/-- THE TIED CARD OF 'criaderalaw05.CertifyGrounds'. -/
def certifyGroundsCard : Claim7 := { stood := { row := certifyGroundsRow, standIns := [], harness := (true, "440a601e8dafa1681c3632775278ab1ef52b44982ea2370c811e9f285af9225a"), looks := true }, kinds := [], alts := [], goes := true, laidByText := true, laidKinds := [.data, .data, .data, .data, .sentinel, .sentinel, .pinned], laidTests := true, laidLooks := .later }
def CertifyGroundsCardSaid : Prop := Claim7.holds Tryz.pinned (.plain (OpenSpec.ofChange certifyGroundsSpec)) certifyGroundsCard

/-- THE TIED CARD OF 'criaderalaw05.CertifyEither'. -/
def certifyEitherCard : Claim7 := { stood := { row := certifyEitherRow, standIns := [], harness := (true, "440a601e8dafa1681c3632775278ab1ef52b44982ea2370c811e9f285af9225a"), looks := true }, kinds := [], alts := [], goes := true, laidByText := true, laidKinds := [.data, .data, .data, .data, .sentinel, .sentinel, .pinned], laidTests := true, laidLooks := .later }
def CertifyEitherCardSaid : Prop := Claim7.holds Tryz.pinned (.plain (OpenSpec.ofChange certifyEitherSpec)) certifyEitherCard

/-- THE TIED CARD OF 'criaderalaw05.CertifyClashes'. -/
def certifyClashesCard : Claim7 := { stood := { row := certifyClashesRow, standIns := [], harness := (true, "440a601e8dafa1681c3632775278ab1ef52b44982ea2370c811e9f285af9225a"), looks := true }, kinds := [], alts := [], goes := true, laidByText := true, laidKinds := [.data, .data, .data, .data, .sentinel, .sentinel, .pinned], laidTests := true, laidLooks := .later }
def CertifyClashesCardSaid : Prop := Claim7.holds Tryz.pinned (.plain (OpenSpec.ofChange certifyClashesSpec)) certifyClashesCard

/-- THE SECOND FORM's CARD OF 'criaderalaw05.CertifyLeast'. -/
def certifyLeastUptoCard : Claim7 := { stood := { row := certifyLeastUptoRow, standIns := [], harness := (true, "440a601e8dafa1681c3632775278ab1ef52b44982ea2370c811e9f285af9225a"), looks := true }, kinds := [], alts := [], goes := true, laidByText := true, laidKinds := [.data, .data, .data, .data, .sentinel, .sentinel, .pinned], laidTests := true, laidLooks := .later }
def CertifyLeastUptoCardSaid : Prop := Claim7.holds Tryz.pinned (.plain (OpenSpec.upto certifyLeastSpec)) certifyLeastUptoCard

/-- THE SECOND FORM's CARD OF 'criaderalaw05.CertifyIssues'. -/
def certifyIssuesUptoCard : Claim7 := { stood := { row := certifyIssuesUptoRow, standIns := [], harness := (true, "440a601e8dafa1681c3632775278ab1ef52b44982ea2370c811e9f285af9225a"), looks := true }, kinds := [], alts := [], goes := true, laidByText := true, laidKinds := [.data, .data, .data, .data, .sentinel, .sentinel, .pinned], laidTests := true, laidLooks := .later }
def CertifyIssuesUptoCardSaid : Prop := Claim7.holds Tryz.pinned (.plain (OpenSpec.upto certifyIssuesSpec)) certifyIssuesUptoCard

/-- THE SECOND FORM's CARD OF 'criaderalaw05.CertifyGrounds'. -/
def certifyGroundsUptoCard : Claim7 := { stood := { row := certifyGroundsUptoRow, standIns := [], harness := (true, "440a601e8dafa1681c3632775278ab1ef52b44982ea2370c811e9f285af9225a"), looks := true }, kinds := [], alts := [], goes := true, laidByText := true, laidKinds := [.data, .data, .data, .data, .sentinel, .sentinel, .pinned], laidTests := true, laidLooks := .later }
def CertifyGroundsUptoCardSaid : Prop := Claim7.holds Tryz.pinned (.plain (OpenSpec.upto certifyGroundsSpec)) certifyGroundsUptoCard

/-- THE SECOND FORM's CARD OF 'criaderalaw05.CertifyEither'. -/
def certifyEitherUptoCard : Claim7 := { stood := { row := certifyEitherUptoRow, standIns := [], harness := (true, "440a601e8dafa1681c3632775278ab1ef52b44982ea2370c811e9f285af9225a"), looks := true }, kinds := [], alts := [], goes := true, laidByText := true, laidKinds := [.data, .data, .data, .data, .sentinel, .sentinel, .pinned], laidTests := true, laidLooks := .later }
def CertifyEitherUptoCardSaid : Prop := Claim7.holds Tryz.pinned (.plain (OpenSpec.upto certifyEitherSpec)) certifyEitherUptoCard

/-- THE SECOND FORM's CARD OF 'criaderalaw05.CertifyClashes'. -/
def certifyClashesUptoCard : Claim7 := { stood := { row := certifyClashesUptoRow, standIns := [], harness := (true, "440a601e8dafa1681c3632775278ab1ef52b44982ea2370c811e9f285af9225a"), looks := true }, kinds := [], alts := [], goes := true, laidByText := true, laidKinds := [.data, .data, .data, .data, .sentinel, .sentinel, .pinned], laidTests := true, laidLooks := .later }
def CertifyClashesUptoCardSaid : Prop := Claim7.holds Tryz.pinned (.plain (OpenSpec.upto certifyClashesSpec)) certifyClashesUptoCard
end Rows
end Go.Proofs.YtgiiimibmccpiaaGreatDoor
