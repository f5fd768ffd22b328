/-
  DERIVED. GIVEN WITH THE SEED: THE CARDS: each row of YtcnkanladpmepaaGreatDoorRows.lean that lists a variable, with what it lists TIED to the program's text (the seventh form; the later family's looks); each row that meets fmt, with fmt's text TOLD by the authors' own Lean function (tested against real Go, not proved from fmt's source: count such statements apart). THE CARD IS WHAT COUNTS. Prove the row's statement (the work); the ties are given (YtcnkanladpmepaaGreatDoorTie.lean); close each card by the builder's one call (the guide's Derived/Test/ToyasCard.lean, 'card_holds'). Laid BY PROGRAM, IN A SANDBOX (cutbox-door.mjs). By AI agents, Wed Nov 11 2026. No macro, syntax, notation, axiom, sorry.
-/
import Derived.Test.YtcnkanladpmepaaGreatDoorRows
import GoSem.ClaimSeven
namespace Go.Proofs.YtcnkanladpmepaaGreatDoor
namespace Rows

/-- THE TIED CARD OF 'criaderalaw05.CertifyLeast'. -/
def certifyLeastCard : Claim7 := { stood := { row := certifyLeastRow, standIns := [], harness := (true, "594b03c1eb02c2d4fc640a33e25c178c8cfe10078d2c25ffed43668b7c518da5"), looks := true }, kinds := [], alts := [], goes := true, laidByText := true, laidKinds := [.data, .data, .data, .data, .sentinel, .sentinel, .pinned], laidTests := true, laidLooks := .later }
def CertifyLeastCardSaid : Prop := Claim7.holds Tryz.pinned (.plain (OpenSpec.ofChange certifyLeastSpec)) certifyLeastCard

/-- THE TIED CARD OF 'criaderalaw05.CertifyCarbon'. -/
def certifyCarbonCard : Claim7 := { stood := { row := certifyCarbonRow, standIns := [], harness := (true, "594b03c1eb02c2d4fc640a33e25c178c8cfe10078d2c25ffed43668b7c518da5"), looks := true }, kinds := [], alts := [], goes := true, laidByText := true, laidKinds := [.data, .data, .data, .data, .sentinel, .sentinel, .pinned], laidTests := true, laidLooks := .later }
def CertifyCarbonCardSaid : Prop := Claim7.holds Tryz.pinned (.plain (OpenSpec.ofChange certifyCarbonSpec)) certifyCarbonCard

/-- THE TIED CARD OF 'criaderalaw05.CertifyRanges'. -/
def certifyRangesCard : Claim7 := { stood := { row := certifyRangesRow, standIns := [], harness := (true, "594b03c1eb02c2d4fc640a33e25c178c8cfe10078d2c25ffed43668b7c518da5"), looks := true }, kinds := [], alts := [], goes := true, laidByText := true, laidKinds := [.data, .data, .data, .data, .sentinel, .sentinel, .pinned], laidTests := true, laidLooks := .later }
def CertifyRangesCardSaid : Prop := Claim7.holds Tryz.pinned (.plain (OpenSpec.ofChange certifyRangesSpec)) certifyRangesCard

/-- THE TIED CARD OF 'criaderalaw05.CertifyIssues'. -/
def certifyIssuesCard : Claim7 := { stood := { row := certifyIssuesRow, standIns := [], harness := (true, "594b03c1eb02c2d4fc640a33e25c178c8cfe10078d2c25ffed43668b7c518da5"), looks := true }, kinds := [], alts := [], goes := true, laidByText := true, laidKinds := [.data, .data, .data, .data, .sentinel, .sentinel, .pinned], laidTests := true, laidLooks := .later }
def CertifyIssuesCardSaid : Prop := Claim7.holds Tryz.pinned (.plain (OpenSpec.ofChange certifyIssuesSpec)) certifyIssuesCard

/-- THE TIED CARD OF 'criaderalaw05.CertifyCertificates'. -/
def certifyCertificatesCard : Claim7 := { stood := { row := certifyCertificatesRow, standIns := [], harness := (true, "594b03c1eb02c2d4fc640a33e25c178c8cfe10078d2c25ffed43668b7c518da5"), looks := true }, kinds := [], alts := [], goes := true, laidByText := true, laidKinds := [.data, .data, .data, .data, .sentinel, .sentinel, .pinned], laidTests := true, laidLooks := .later }
def CertifyCertificatesCardSaid : Prop := Claim7.holds Tryz.pinned (.plain (OpenSpec.ofChange certifyCertificatesSpec)) certifyCertificatesCard

/-- THE TIED CARD OF 'criaderalaw05.CertifyBooks'. -/
def certifyBooksCard : Claim7 := { stood := { row := certifyBooksRow, standIns := [], harness := (true, "594b03c1eb02c2d4fc640a33e25c178c8cfe10078d2c25ffed43668b7c518da5"), looks := true }, kinds := [], alts := [], goes := true, laidByText := true, laidKinds := [.data, .data, .data, .data, .sentinel, .sentinel, .pinned], laidTests := true, laidLooks := .later }
def CertifyBooksCardSaid : Prop := Claim7.holds Tryz.pinned (.plain (OpenSpec.ofChange certifyBooksSpec)) certifyBooksCard

/-- THE TIED CARD OF 'criaderalaw05.CertifyMore'. -/
def certifyMoreCard : Claim7 := { stood := { row := certifyMoreRow, standIns := [], harness := (true, "594b03c1eb02c2d4fc640a33e25c178c8cfe10078d2c25ffed43668b7c518da5"), looks := true }, kinds := [], alts := [], goes := true, laidByText := true, laidKinds := [.data, .data, .data, .data, .sentinel, .sentinel, .pinned], laidTests := true, laidLooks := .later }
def CertifyMoreCardSaid : Prop := Claim7.holds Tryz.pinned (.plain (OpenSpec.ofChange certifyMoreSpec)) certifyMoreCard

/-- THE TIED CARD OF 'criaderalaw05.CertifyProofs'. -/
def certifyProofsCard : Claim7 := { stood := { row := certifyProofsRow, standIns := [], harness := (true, "594b03c1eb02c2d4fc640a33e25c178c8cfe10078d2c25ffed43668b7c518da5"), looks := true }, kinds := [], alts := [], goes := true, laidByText := true, laidKinds := [.data, .data, .data, .data, .sentinel, .sentinel, .pinned], laidTests := true, laidLooks := .later }
def CertifyProofsCardSaid : Prop := Claim7.holds Tryz.pinned (.plain (OpenSpec.ofChange certifyProofsSpec)) certifyProofsCard

/-- THE TIED CARD OF 'criaderalaw05.CertifyGrounds'. -/
def certifyGroundsCard : Claim7 := { stood := { row := certifyGroundsRow, standIns := [], harness := (true, "594b03c1eb02c2d4fc640a33e25c178c8cfe10078d2c25ffed43668b7c518da5"), looks := true }, kinds := [], alts := [], goes := true, laidByText := true, laidKinds := [.data, .data, .data, .data, .sentinel, .sentinel, .pinned], laidTests := true, laidLooks := .later }
def CertifyGroundsCardSaid : Prop := Claim7.holds Tryz.pinned (.plain (OpenSpec.ofChange certifyGroundsSpec)) certifyGroundsCard

/-- THE TIED CARD OF 'criaderalaw05.CertifyMixes'. -/
def certifyMixesCard : Claim7 := { stood := { row := certifyMixesRow, standIns := [], harness := (true, "594b03c1eb02c2d4fc640a33e25c178c8cfe10078d2c25ffed43668b7c518da5"), looks := true }, kinds := [], alts := [], goes := true, laidByText := true, laidKinds := [.data, .data, .data, .data, .sentinel, .sentinel, .pinned], laidTests := true, laidLooks := .later }
def CertifyMixesCardSaid : Prop := Claim7.holds Tryz.pinned (.plain (OpenSpec.ofChange certifyMixesSpec)) certifyMixesCard

/-- THE TIED CARD OF 'criaderalaw05.CertifyEither'. -/
def certifyEitherCard : Claim7 := { stood := { row := certifyEitherRow, standIns := [], harness := (true, "594b03c1eb02c2d4fc640a33e25c178c8cfe10078d2c25ffed43668b7c518da5"), looks := true }, kinds := [], alts := [], goes := true, laidByText := true, laidKinds := [.data, .data, .data, .data, .sentinel, .sentinel, .pinned], laidTests := true, laidLooks := .later }
def CertifyEitherCardSaid : Prop := Claim7.holds Tryz.pinned (.plain (OpenSpec.ofChange certifyEitherSpec)) certifyEitherCard

/-- THE TIED CARD OF 'criaderalaw05.CertifyHolds'. -/
def certifyHoldsCard : Claim7 := { stood := { row := certifyHoldsRow, standIns := [], harness := (true, "594b03c1eb02c2d4fc640a33e25c178c8cfe10078d2c25ffed43668b7c518da5"), looks := true }, kinds := [], alts := [], goes := true, laidByText := true, laidKinds := [.data, .data, .data, .data, .sentinel, .sentinel, .pinned], laidTests := true, laidLooks := .later }
def CertifyHoldsCardSaid : Prop := Claim7.holds Tryz.pinned (.plain (OpenSpec.ofChange certifyHoldsSpec)) certifyHoldsCard

/-- THE TIED CARD OF 'criaderalaw05.CertifyTexts'. -/
def certifyTextsCard : Claim7 := { stood := { row := certifyTextsRow, standIns := [], harness := (true, "594b03c1eb02c2d4fc640a33e25c178c8cfe10078d2c25ffed43668b7c518da5"), looks := true }, kinds := [], alts := [], goes := true, laidByText := true, laidKinds := [.data, .data, .data, .data, .sentinel, .sentinel, .pinned], laidTests := true, laidLooks := .later }
def CertifyTextsCardSaid : Prop := Claim7.holds Tryz.pinned (.plain (OpenSpec.ofChange certifyTextsSpec)) certifyTextsCard

/-- THE TIED CARD OF 'criaderalaw05.CertifyClashes'. -/
def certifyClashesCard : Claim7 := { stood := { row := certifyClashesRow, standIns := [], harness := (true, "594b03c1eb02c2d4fc640a33e25c178c8cfe10078d2c25ffed43668b7c518da5"), looks := true }, kinds := [], alts := [], goes := true, laidByText := true, laidKinds := [.data, .data, .data, .data, .sentinel, .sentinel, .pinned], laidTests := true, laidLooks := .later }
def CertifyClashesCardSaid : Prop := Claim7.holds Tryz.pinned (.plain (OpenSpec.ofChange certifyClashesSpec)) certifyClashesCard

/-- THE TIED CARD OF 'criaderalaw05.CertifyPrints'. -/
def certifyPrintsCard : Claim7 := { stood := { row := certifyPrintsRow, standIns := [], harness := (true, "594b03c1eb02c2d4fc640a33e25c178c8cfe10078d2c25ffed43668b7c518da5"), looks := true }, kinds := [], alts := [], goes := true, laidByText := true, laidKinds := [.data, .data, .data, .data, .handle, .sentinel, .sentinel, .pinned], laidTests := true, laidLooks := .later }
def CertifyPrintsCardSaid : Prop := Claim7.holds Tryz.pinned (.plain (OpenSpec.ofChange certifyPrintsSpec)) certifyPrintsCard

/-- THE SECOND FORM's CARD OF 'criaderalaw05.CertifyLeast'. -/
def certifyLeastUptoCard : Claim7 := { stood := { row := certifyLeastUptoRow, standIns := [], harness := (true, "594b03c1eb02c2d4fc640a33e25c178c8cfe10078d2c25ffed43668b7c518da5"), looks := true }, kinds := [], alts := [], goes := true, laidByText := true, laidKinds := [.data, .data, .data, .data, .sentinel, .sentinel, .pinned], laidTests := true, laidLooks := .later }
def CertifyLeastUptoCardSaid : Prop := Claim7.holds Tryz.pinned (.plain (OpenSpec.upto certifyLeastSpec)) certifyLeastUptoCard

/-- THE SECOND FORM's CARD OF 'criaderalaw05.CertifyCarbon'. -/
def certifyCarbonUptoCard : Claim7 := { stood := { row := certifyCarbonUptoRow, standIns := [], harness := (true, "594b03c1eb02c2d4fc640a33e25c178c8cfe10078d2c25ffed43668b7c518da5"), looks := true }, kinds := [], alts := [], goes := true, laidByText := true, laidKinds := [.data, .data, .data, .data, .sentinel, .sentinel, .pinned], laidTests := true, laidLooks := .later }
def CertifyCarbonUptoCardSaid : Prop := Claim7.holds Tryz.pinned (.plain (OpenSpec.upto certifyCarbonSpec)) certifyCarbonUptoCard

/-- THE SECOND FORM's CARD OF 'criaderalaw05.CertifyRanges'. -/
def certifyRangesUptoCard : Claim7 := { stood := { row := certifyRangesUptoRow, standIns := [], harness := (true, "594b03c1eb02c2d4fc640a33e25c178c8cfe10078d2c25ffed43668b7c518da5"), looks := true }, kinds := [], alts := [], goes := true, laidByText := true, laidKinds := [.data, .data, .data, .data, .sentinel, .sentinel, .pinned], laidTests := true, laidLooks := .later }
def CertifyRangesUptoCardSaid : Prop := Claim7.holds Tryz.pinned (.plain (OpenSpec.upto certifyRangesSpec)) certifyRangesUptoCard

/-- THE SECOND FORM's CARD OF 'criaderalaw05.CertifyIssues'. -/
def certifyIssuesUptoCard : Claim7 := { stood := { row := certifyIssuesUptoRow, standIns := [], harness := (true, "594b03c1eb02c2d4fc640a33e25c178c8cfe10078d2c25ffed43668b7c518da5"), looks := true }, kinds := [], alts := [], goes := true, laidByText := true, laidKinds := [.data, .data, .data, .data, .sentinel, .sentinel, .pinned], laidTests := true, laidLooks := .later }
def CertifyIssuesUptoCardSaid : Prop := Claim7.holds Tryz.pinned (.plain (OpenSpec.upto certifyIssuesSpec)) certifyIssuesUptoCard

/-- THE SECOND FORM's CARD OF 'criaderalaw05.CertifyCertificates'. -/
def certifyCertificatesUptoCard : Claim7 := { stood := { row := certifyCertificatesUptoRow, standIns := [], harness := (true, "594b03c1eb02c2d4fc640a33e25c178c8cfe10078d2c25ffed43668b7c518da5"), looks := true }, kinds := [], alts := [], goes := true, laidByText := true, laidKinds := [.data, .data, .data, .data, .sentinel, .sentinel, .pinned], laidTests := true, laidLooks := .later }
def CertifyCertificatesUptoCardSaid : Prop := Claim7.holds Tryz.pinned (.plain (OpenSpec.upto certifyCertificatesSpec)) certifyCertificatesUptoCard

/-- THE SECOND FORM's CARD OF 'criaderalaw05.CertifyBooks'. -/
def certifyBooksUptoCard : Claim7 := { stood := { row := certifyBooksUptoRow, standIns := [], harness := (true, "594b03c1eb02c2d4fc640a33e25c178c8cfe10078d2c25ffed43668b7c518da5"), looks := true }, kinds := [], alts := [], goes := true, laidByText := true, laidKinds := [.data, .data, .data, .data, .sentinel, .sentinel, .pinned], laidTests := true, laidLooks := .later }
def CertifyBooksUptoCardSaid : Prop := Claim7.holds Tryz.pinned (.plain (OpenSpec.upto certifyBooksSpec)) certifyBooksUptoCard

/-- THE SECOND FORM's CARD OF 'criaderalaw05.CertifyMore'. -/
def certifyMoreUptoCard : Claim7 := { stood := { row := certifyMoreUptoRow, standIns := [], harness := (true, "594b03c1eb02c2d4fc640a33e25c178c8cfe10078d2c25ffed43668b7c518da5"), looks := true }, kinds := [], alts := [], goes := true, laidByText := true, laidKinds := [.data, .data, .data, .data, .sentinel, .sentinel, .pinned], laidTests := true, laidLooks := .later }
def CertifyMoreUptoCardSaid : Prop := Claim7.holds Tryz.pinned (.plain (OpenSpec.upto certifyMoreSpec)) certifyMoreUptoCard

/-- THE SECOND FORM's CARD OF 'criaderalaw05.CertifyProofs'. -/
def certifyProofsUptoCard : Claim7 := { stood := { row := certifyProofsUptoRow, standIns := [], harness := (true, "594b03c1eb02c2d4fc640a33e25c178c8cfe10078d2c25ffed43668b7c518da5"), looks := true }, kinds := [], alts := [], goes := true, laidByText := true, laidKinds := [.data, .data, .data, .data, .sentinel, .sentinel, .pinned], laidTests := true, laidLooks := .later }
def CertifyProofsUptoCardSaid : Prop := Claim7.holds Tryz.pinned (.plain (OpenSpec.upto certifyProofsSpec)) certifyProofsUptoCard

/-- THE SECOND FORM's CARD OF 'criaderalaw05.CertifyGrounds'. -/
def certifyGroundsUptoCard : Claim7 := { stood := { row := certifyGroundsUptoRow, standIns := [], harness := (true, "594b03c1eb02c2d4fc640a33e25c178c8cfe10078d2c25ffed43668b7c518da5"), looks := true }, kinds := [], alts := [], goes := true, laidByText := true, laidKinds := [.data, .data, .data, .data, .sentinel, .sentinel, .pinned], laidTests := true, laidLooks := .later }
def CertifyGroundsUptoCardSaid : Prop := Claim7.holds Tryz.pinned (.plain (OpenSpec.upto certifyGroundsSpec)) certifyGroundsUptoCard

/-- THE SECOND FORM's CARD OF 'criaderalaw05.CertifyMixes'. -/
def certifyMixesUptoCard : Claim7 := { stood := { row := certifyMixesUptoRow, standIns := [], harness := (true, "594b03c1eb02c2d4fc640a33e25c178c8cfe10078d2c25ffed43668b7c518da5"), looks := true }, kinds := [], alts := [], goes := true, laidByText := true, laidKinds := [.data, .data, .data, .data, .sentinel, .sentinel, .pinned], laidTests := true, laidLooks := .later }
def CertifyMixesUptoCardSaid : Prop := Claim7.holds Tryz.pinned (.plain (OpenSpec.upto certifyMixesSpec)) certifyMixesUptoCard

/-- THE SECOND FORM's CARD OF 'criaderalaw05.CertifyEither'. -/
def certifyEitherUptoCard : Claim7 := { stood := { row := certifyEitherUptoRow, standIns := [], harness := (true, "594b03c1eb02c2d4fc640a33e25c178c8cfe10078d2c25ffed43668b7c518da5"), looks := true }, kinds := [], alts := [], goes := true, laidByText := true, laidKinds := [.data, .data, .data, .data, .sentinel, .sentinel, .pinned], laidTests := true, laidLooks := .later }
def CertifyEitherUptoCardSaid : Prop := Claim7.holds Tryz.pinned (.plain (OpenSpec.upto certifyEitherSpec)) certifyEitherUptoCard

/-- THE SECOND FORM's CARD OF 'criaderalaw05.CertifyHolds'. -/
def certifyHoldsUptoCard : Claim7 := { stood := { row := certifyHoldsUptoRow, standIns := [], harness := (true, "594b03c1eb02c2d4fc640a33e25c178c8cfe10078d2c25ffed43668b7c518da5"), looks := true }, kinds := [], alts := [], goes := true, laidByText := true, laidKinds := [.data, .data, .data, .data, .sentinel, .sentinel, .pinned], laidTests := true, laidLooks := .later }
def CertifyHoldsUptoCardSaid : Prop := Claim7.holds Tryz.pinned (.plain (OpenSpec.upto certifyHoldsSpec)) certifyHoldsUptoCard

/-- THE SECOND FORM's CARD OF 'criaderalaw05.CertifyTexts'. -/
def certifyTextsUptoCard : Claim7 := { stood := { row := certifyTextsUptoRow, standIns := [], harness := (true, "594b03c1eb02c2d4fc640a33e25c178c8cfe10078d2c25ffed43668b7c518da5"), looks := true }, kinds := [], alts := [], goes := true, laidByText := true, laidKinds := [.data, .data, .data, .data, .sentinel, .sentinel, .pinned], laidTests := true, laidLooks := .later }
def CertifyTextsUptoCardSaid : Prop := Claim7.holds Tryz.pinned (.plain (OpenSpec.upto certifyTextsSpec)) certifyTextsUptoCard

/-- THE SECOND FORM's CARD OF 'criaderalaw05.CertifyClashes'. -/
def certifyClashesUptoCard : Claim7 := { stood := { row := certifyClashesUptoRow, standIns := [], harness := (true, "594b03c1eb02c2d4fc640a33e25c178c8cfe10078d2c25ffed43668b7c518da5"), looks := true }, kinds := [], alts := [], goes := true, laidByText := true, laidKinds := [.data, .data, .data, .data, .sentinel, .sentinel, .pinned], laidTests := true, laidLooks := .later }
def CertifyClashesUptoCardSaid : Prop := Claim7.holds Tryz.pinned (.plain (OpenSpec.upto certifyClashesSpec)) certifyClashesUptoCard

/-- THE SECOND FORM's CARD OF 'criaderalaw05.CertifyPrints'. -/
def certifyPrintsUptoCard : Claim7 := { stood := { row := certifyPrintsUptoRow, standIns := [], harness := (true, "594b03c1eb02c2d4fc640a33e25c178c8cfe10078d2c25ffed43668b7c518da5"), looks := true }, kinds := [], alts := [], goes := true, laidByText := true, laidKinds := [.data, .data, .data, .data, .handle, .sentinel, .sentinel, .pinned], laidTests := true, laidLooks := .later }
def CertifyPrintsUptoCardSaid : Prop := Claim7.holds Tryz.pinned (.plain (OpenSpec.upto certifyPrintsSpec)) certifyPrintsUptoCard
end Rows
end Go.Proofs.YtcnkanladpmepaaGreatDoor
