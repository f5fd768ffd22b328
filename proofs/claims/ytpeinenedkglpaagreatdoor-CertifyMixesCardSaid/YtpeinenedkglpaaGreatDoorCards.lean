/-
  DERIVED. GIVEN WITH THE SEED: THE CARDS: each row of YtpeinenedkglpaaGreatDoorRows.lean that lists a variable, with what it lists TIED to the program's text (the seventh form; the later family's looks); each row that meets fmt, with fmt's text TOLD by the authors' own Lean function (tested against real Go, not proved from fmt's source: count such statements apart). THE CARD IS WHAT COUNTS. Prove the row's statement (the work); the ties are given (YtpeinenedkglpaaGreatDoorTie.lean); close each card by the builder's one call (the guide's Derived/Test/ToyasCard.lean, 'card_holds'). Laid BY PROGRAM, IN A SANDBOX (cutbox-door.mjs). By AI agents, Wed Nov 11 2026. No macro, syntax, notation, axiom, sorry.
-/
import Derived.Test.YtpeinenedkglpaaGreatDoorRows
import GoSem.ClaimSeven
namespace Go.Proofs.YtpeinenedkglpaaGreatDoor
namespace Rows

/-- THE TIED CARD OF 'criaderalaw05.CertifyCertificates'. -/
def certifyCertificatesCard : Claim7 := { stood := { row := certifyCertificatesRow, standIns := [], harness := (true, "1d37eaf5e34f2eb9bc6af45468eb1d7dfb4eed6d7a64856673622e760fe5dc4c"), looks := true }, kinds := [], alts := [], goes := true, laidByText := true, laidKinds := [.data, .data, .data, .data, .sentinel, .sentinel, .pinned], laidTests := true, laidLooks := .later }
def CertifyCertificatesCardSaid : Prop := Claim7.holds Tryz.pinned (.plain (OpenSpec.ofChange certifyCertificatesSpec)) certifyCertificatesCard

/-- THE TIED CARD OF 'criaderalaw05.CertifyProofs'. -/
def certifyProofsCard : Claim7 := { stood := { row := certifyProofsRow, standIns := [], harness := (true, "1d37eaf5e34f2eb9bc6af45468eb1d7dfb4eed6d7a64856673622e760fe5dc4c"), looks := true }, kinds := [], alts := [], goes := true, laidByText := true, laidKinds := [.data, .data, .data, .data, .sentinel, .sentinel, .pinned], laidTests := true, laidLooks := .later }
def CertifyProofsCardSaid : Prop := Claim7.holds Tryz.pinned (.plain (OpenSpec.ofChange certifyProofsSpec)) certifyProofsCard

/-- THE TIED CARD OF 'criaderalaw05.CertifyMixes'. -/
def certifyMixesCard : Claim7 := { stood := { row := certifyMixesRow, standIns := [], harness := (true, "1d37eaf5e34f2eb9bc6af45468eb1d7dfb4eed6d7a64856673622e760fe5dc4c"), looks := true }, kinds := [], alts := [], goes := true, laidByText := true, laidKinds := [.data, .data, .data, .data, .sentinel, .sentinel, .pinned], laidTests := true, laidLooks := .later }
def CertifyMixesCardSaid : Prop := Claim7.holds Tryz.pinned (.plain (OpenSpec.ofChange certifyMixesSpec)) certifyMixesCard

/-- THE TIED CARD OF 'criaderalaw05.CertifyHolds'. -/
def certifyHoldsCard : Claim7 := { stood := { row := certifyHoldsRow, standIns := [], harness := (true, "1d37eaf5e34f2eb9bc6af45468eb1d7dfb4eed6d7a64856673622e760fe5dc4c"), looks := true }, kinds := [], alts := [], goes := true, laidByText := true, laidKinds := [.data, .data, .data, .data, .sentinel, .sentinel, .pinned], laidTests := true, laidLooks := .later }
def CertifyHoldsCardSaid : Prop := Claim7.holds Tryz.pinned (.plain (OpenSpec.ofChange certifyHoldsSpec)) certifyHoldsCard

/-- THE SECOND FORM's CARD OF 'criaderalaw05.CertifyCertificates'. -/
def certifyCertificatesUptoCard : Claim7 := { stood := { row := certifyCertificatesUptoRow, standIns := [], harness := (true, "1d37eaf5e34f2eb9bc6af45468eb1d7dfb4eed6d7a64856673622e760fe5dc4c"), looks := true }, kinds := [], alts := [], goes := true, laidByText := true, laidKinds := [.data, .data, .data, .data, .sentinel, .sentinel, .pinned], laidTests := true, laidLooks := .later }
def CertifyCertificatesUptoCardSaid : Prop := Claim7.holds Tryz.pinned (.plain (OpenSpec.upto certifyCertificatesSpec)) certifyCertificatesUptoCard

/-- THE SECOND FORM's CARD OF 'criaderalaw05.CertifyProofs'. -/
def certifyProofsUptoCard : Claim7 := { stood := { row := certifyProofsUptoRow, standIns := [], harness := (true, "1d37eaf5e34f2eb9bc6af45468eb1d7dfb4eed6d7a64856673622e760fe5dc4c"), looks := true }, kinds := [], alts := [], goes := true, laidByText := true, laidKinds := [.data, .data, .data, .data, .sentinel, .sentinel, .pinned], laidTests := true, laidLooks := .later }
def CertifyProofsUptoCardSaid : Prop := Claim7.holds Tryz.pinned (.plain (OpenSpec.upto certifyProofsSpec)) certifyProofsUptoCard

/-- THE SECOND FORM's CARD OF 'criaderalaw05.CertifyMixes'. -/
def certifyMixesUptoCard : Claim7 := { stood := { row := certifyMixesUptoRow, standIns := [], harness := (true, "1d37eaf5e34f2eb9bc6af45468eb1d7dfb4eed6d7a64856673622e760fe5dc4c"), looks := true }, kinds := [], alts := [], goes := true, laidByText := true, laidKinds := [.data, .data, .data, .data, .sentinel, .sentinel, .pinned], laidTests := true, laidLooks := .later }
def CertifyMixesUptoCardSaid : Prop := Claim7.holds Tryz.pinned (.plain (OpenSpec.upto certifyMixesSpec)) certifyMixesUptoCard

/-- THE SECOND FORM's CARD OF 'criaderalaw05.CertifyHolds'. -/
def certifyHoldsUptoCard : Claim7 := { stood := { row := certifyHoldsUptoRow, standIns := [], harness := (true, "1d37eaf5e34f2eb9bc6af45468eb1d7dfb4eed6d7a64856673622e760fe5dc4c"), looks := true }, kinds := [], alts := [], goes := true, laidByText := true, laidKinds := [.data, .data, .data, .data, .sentinel, .sentinel, .pinned], laidTests := true, laidLooks := .later }
def CertifyHoldsUptoCardSaid : Prop := Claim7.holds Tryz.pinned (.plain (OpenSpec.upto certifyHoldsSpec)) certifyHoldsUptoCard
end Rows
end Go.Proofs.YtpeinenedkglpaaGreatDoor
