/-
  DERIVED. GIVEN WITH THE SEED: THE CARDS: each row of YtbikblifpfokaaaGreatDoorRows.lean that lists a variable, with what it lists TIED to the program's text (the seventh form; the later family's looks); each row that meets fmt, with fmt's text TOLD by the authors' own Lean function (tested against real Go, not proved from fmt's source: count such statements apart). THE CARD IS WHAT COUNTS. Prove the row's statement (the work); the ties are given (YtbikblifpfokaaaGreatDoorTie.lean); close each card by the builder's one call (the guide's Derived/Test/ToyasCard.lean, 'card_holds'). Laid BY PROGRAM, IN A SANDBOX (cutbox-door.mjs). By AI agents, Wed Nov 11 2026. No macro, syntax, notation, axiom, sorry.
-/
import Derived.Test.YtbikblifpfokaaaGreatDoorRows
import GoSem.ClaimSeven
namespace Go.Proofs.YtbikblifpfokaaaGreatDoor
namespace Rows

/-- THE TIED CARD OF 'criaderatop.TopTasteRuleBooks'. -/
def topTasteRuleBooksCard : Claim7 := { stood := { row := topTasteRuleBooksRow, standIns := [], harness := (true, "08b3028458308092c6f1aee1a958b31cf2553a6b3702161018d0f4631beb3b85"), looks := true }, kinds := [], alts := [], laidByText := true, laidKinds := [.data, .data, .data, .data, .sentinel, .sentinel, .pinned], laidTests := true, laidLooks := .later }
def TopTasteRuleBooksCardSaid : Prop := Claim7.holds Tryz.pinned (.plain (OpenSpec.ofChange topTasteRuleBooksSpec)) topTasteRuleBooksCard

/-- THE SECOND FORM's CARD OF 'criaderatop.TopTasteRuleBooks'. -/
def topTasteRuleBooksUptoCard : Claim7 := { stood := { row := topTasteRuleBooksUptoRow, standIns := [], harness := (true, "08b3028458308092c6f1aee1a958b31cf2553a6b3702161018d0f4631beb3b85"), looks := true }, kinds := [], alts := [], laidByText := true, laidKinds := [.data, .data, .data, .data, .sentinel, .sentinel, .pinned], laidTests := true, laidLooks := .later }
def TopTasteRuleBooksUptoCardSaid : Prop := Claim7.holds Tryz.pinned (.plain (OpenSpec.upto topTasteRuleBooksSpec)) topTasteRuleBooksUptoCard
end Rows
end Go.Proofs.YtbikblifpfokaaaGreatDoor
