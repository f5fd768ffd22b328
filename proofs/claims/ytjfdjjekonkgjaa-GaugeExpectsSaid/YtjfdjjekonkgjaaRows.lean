/-
  No cell of these rows narrows 'for every input' (looked for: loops, veiled, ifaces, maps, wideKeys, modest, calm, conditions, laid).
  DERIVED. THE GIVEN ROWS OF THIS SEAT. 12 by the template 'for every input the law returns true; each argument reads behind the call as it read before'; 0 by the template 'total and deterministic' (their statements: YtjfdjjekonkgjaaTotals.lean).
  GIVEN WITH THE SEED: the statements are not yours to turn. If you find one false, say at which input.
  Laid BY PROGRAM, IN A SANDBOX (cutbox-rows.mjs): the forced cells as the released guide's own fill.sh prints them over the translation e14c7228fdc58422… (all of the seat's roots in one cut). By AI agents, Wed Nov 11 2026. No macro, syntax, notation, axiom, sorry.
-/
import Derived.Test.YtjfdjjekonkgjaaChecked
import GoSem.Claim
import GoSem.ClaimJoined
import GoSem.ClaimMapViews
import Derived.JoinedTies
import Derived.KernelRfl
namespace Go.Proofs.Ytjfdjjekonkgjaa
/- THE CELL 'sum', in the pinned program and in every row, IS THE sha256 OF THE DUMP (.gsa) THAT YtjfdjjekonkgjaaProg.lean LOADS. Nothing in Lean hashes anything: it is a label: what it is worth is what the hold of that sum in a sandbox is worth. -/
noncomputable def Try.pinned : Pinned := { name := "ytjfdjjekonkgjaa", sum := "e14c7228fdc58422ca059ed3eb37bf99ff7bda210902a76dab0085f4d4e0923b", checked := Try.checked }
namespace Rows
def none {H : Type} : Left H := { results := [], args := [] }

/-- 'criaderalaw04.GaugeAreas': WHATEVER THE INPUT: true; the input reads as it did. -/
def gaugeAreasSpec : ChangeSpec := { name := "gaugeAreas", fn := fun _ => fun
  | [d1, d2] => { results := [.lit (.bool true)], args := [d1, d2] }
  | _ => none }
def gaugeAreasRow : OpenClaim := { program := "ytjfdjjekonkgjaa", sum := "e14c7228fdc58422ca059ed3eb37bf99ff7bda210902a76dab0085f4d4e0923b", func := "criadera/criaderalaw04.GaugeAreas", spec := "gaugeAreas", inPlace := ["math.sqrt"], unfollowed := true, recurses := true, apart := false }
def GaugeAreasSaid : Prop := gaugeAreasRow.holds Try.pinned (OpenSpec.ofChange gaugeAreasSpec)

/-- ITS FALSE NEIGHBOUR: 'it returns false'. Refute it at one input. -/
def gaugeAreasWrong : ChangeSpec := { name := "gaugeAreas", fn := fun _ => fun
  | [d1, d2] => { results := [.lit (.bool false)], args := [d1, d2] }
  | _ => none }
def GaugeAreasWrongFalsely : Prop := gaugeAreasRow.holds Try.pinned (OpenSpec.ofChange gaugeAreasWrong)

/-- 'criaderalaw04.GaugeVolumes': WHATEVER THE INPUT: true; the input reads as it did. -/
def gaugeVolumesSpec : ChangeSpec := { name := "gaugeVolumes", fn := fun _ => fun
  | [d1, d2] => { results := [.lit (.bool true)], args := [d1, d2] }
  | _ => none }
def gaugeVolumesRow : OpenClaim := { program := "ytjfdjjekonkgjaa", sum := "e14c7228fdc58422ca059ed3eb37bf99ff7bda210902a76dab0085f4d4e0923b", func := "criadera/criaderalaw04.GaugeVolumes", spec := "gaugeVolumes", inPlace := ["math.sqrt"], unfollowed := true, recurses := true, apart := false }
def GaugeVolumesSaid : Prop := gaugeVolumesRow.holds Try.pinned (OpenSpec.ofChange gaugeVolumesSpec)

/-- ITS FALSE NEIGHBOUR: 'it returns false'. Refute it at one input. -/
def gaugeVolumesWrong : ChangeSpec := { name := "gaugeVolumes", fn := fun _ => fun
  | [d1, d2] => { results := [.lit (.bool false)], args := [d1, d2] }
  | _ => none }
def GaugeVolumesWrongFalsely : Prop := gaugeVolumesRow.holds Try.pinned (OpenSpec.ofChange gaugeVolumesWrong)

/-- 'criaderalaw04.GaugeDeeper': WHATEVER THE INPUT: true; the input reads as it did. -/
def gaugeDeeperSpec : ChangeSpec := { name := "gaugeDeeper", fn := fun _ => fun
  | [d1, d2, d3] => { results := [.lit (.bool true)], args := [d1, d2, d3] }
  | _ => none }
def gaugeDeeperRow : OpenClaim := { program := "ytjfdjjekonkgjaa", sum := "e14c7228fdc58422ca059ed3eb37bf99ff7bda210902a76dab0085f4d4e0923b", func := "criadera/criaderalaw04.GaugeDeeper", spec := "gaugeDeeper", inPlace := ["math.sqrt"], unfollowed := true, recurses := true, apart := false }
def GaugeDeeperSaid : Prop := gaugeDeeperRow.holds Try.pinned (OpenSpec.ofChange gaugeDeeperSpec)

/-- ITS FALSE NEIGHBOUR: 'it returns false'. Refute it at one input. -/
def gaugeDeeperWrong : ChangeSpec := { name := "gaugeDeeper", fn := fun _ => fun
  | [d1, d2, d3] => { results := [.lit (.bool false)], args := [d1, d2, d3] }
  | _ => none }
def GaugeDeeperWrongFalsely : Prop := gaugeDeeperRow.holds Try.pinned (OpenSpec.ofChange gaugeDeeperWrong)

/-- 'criaderalaw04.GaugeBooks': WHATEVER THE INPUT: true; the input reads as it did. -/
def gaugeBooksSpec : ChangeSpec := { name := "gaugeBooks", fn := fun _ => fun
  | [d1, d2, d3] => { results := [.lit (.bool true)], args := [d1, d2, d3] }
  | _ => none }
def gaugeBooksRow : OpenClaim := { program := "ytjfdjjekonkgjaa", sum := "e14c7228fdc58422ca059ed3eb37bf99ff7bda210902a76dab0085f4d4e0923b", func := "criadera/criaderalaw04.GaugeBooks", spec := "gaugeBooks", inPlace := ["math.sqrt"], unfollowed := true, recurses := true, apart := false }
def GaugeBooksSaid : Prop := gaugeBooksRow.holds Try.pinned (OpenSpec.ofChange gaugeBooksSpec)

/-- ITS FALSE NEIGHBOUR: 'it returns false'. Refute it at one input. -/
def gaugeBooksWrong : ChangeSpec := { name := "gaugeBooks", fn := fun _ => fun
  | [d1, d2, d3] => { results := [.lit (.bool false)], args := [d1, d2, d3] }
  | _ => none }
def GaugeBooksWrongFalsely : Prop := gaugeBooksRow.holds Try.pinned (OpenSpec.ofChange gaugeBooksWrong)

/-- 'criaderalaw04.GaugeCasks': WHATEVER THE INPUT: true; the input reads as it did. -/
def gaugeCasksSpec : ChangeSpec := { name := "gaugeCasks", fn := fun _ => fun
  | [d] => { results := [.lit (.bool true)], args := [d] }
  | _ => none }
def gaugeCasksRow : OpenClaim := { program := "ytjfdjjekonkgjaa", sum := "e14c7228fdc58422ca059ed3eb37bf99ff7bda210902a76dab0085f4d4e0923b", func := "criadera/criaderalaw04.GaugeCasks", spec := "gaugeCasks", inPlace := ["math.sqrt"], unfollowed := true, recurses := true, apart := false }
def GaugeCasksSaid : Prop := gaugeCasksRow.holds Try.pinned (OpenSpec.ofChange gaugeCasksSpec)

/-- ITS FALSE NEIGHBOUR: 'it returns false'. Refute it at one input. -/
def gaugeCasksWrong : ChangeSpec := { name := "gaugeCasks", fn := fun _ => fun
  | [d] => { results := [.lit (.bool false)], args := [d] }
  | _ => none }
def GaugeCasksWrongFalsely : Prop := gaugeCasksRow.holds Try.pinned (OpenSpec.ofChange gaugeCasksWrong)

/-- 'criaderalaw04.GaugeHalves': WHATEVER THE INPUT: true; the input reads as it did. -/
def gaugeHalvesSpec : ChangeSpec := { name := "gaugeHalves", fn := fun _ => fun
  | [d1, d2] => { results := [.lit (.bool true)], args := [d1, d2] }
  | _ => none }
def gaugeHalvesRow : OpenClaim := { program := "ytjfdjjekonkgjaa", sum := "e14c7228fdc58422ca059ed3eb37bf99ff7bda210902a76dab0085f4d4e0923b", func := "criadera/criaderalaw04.GaugeHalves", spec := "gaugeHalves", inPlace := ["math.sqrt"], unfollowed := true, recurses := true, apart := false }
def GaugeHalvesSaid : Prop := gaugeHalvesRow.holds Try.pinned (OpenSpec.ofChange gaugeHalvesSpec)

/-- ITS FALSE NEIGHBOUR: 'it returns false'. Refute it at one input. -/
def gaugeHalvesWrong : ChangeSpec := { name := "gaugeHalves", fn := fun _ => fun
  | [d1, d2] => { results := [.lit (.bool false)], args := [d1, d2] }
  | _ => none }
def GaugeHalvesWrongFalsely : Prop := gaugeHalvesRow.holds Try.pinned (OpenSpec.ofChange gaugeHalvesWrong)

/-- 'criaderalaw04.GaugeJustTwo': WHATEVER THE INPUT: true; the input reads as it did. -/
def gaugeJustTwoSpec : ChangeSpec := { name := "gaugeJustTwo", fn := fun _ => fun
  | [d1, d2] => { results := [.lit (.bool true)], args := [d1, d2] }
  | _ => none }
def gaugeJustTwoRow : OpenClaim := { program := "ytjfdjjekonkgjaa", sum := "e14c7228fdc58422ca059ed3eb37bf99ff7bda210902a76dab0085f4d4e0923b", func := "criadera/criaderalaw04.GaugeJustTwo", spec := "gaugeJustTwo", inPlace := ["math.sqrt"], unfollowed := true, recurses := true, apart := false }
def GaugeJustTwoSaid : Prop := gaugeJustTwoRow.holds Try.pinned (OpenSpec.ofChange gaugeJustTwoSpec)

/-- ITS FALSE NEIGHBOUR: 'it returns false'. Refute it at one input. -/
def gaugeJustTwoWrong : ChangeSpec := { name := "gaugeJustTwo", fn := fun _ => fun
  | [d1, d2] => { results := [.lit (.bool false)], args := [d1, d2] }
  | _ => none }
def GaugeJustTwoWrongFalsely : Prop := gaugeJustTwoRow.holds Try.pinned (OpenSpec.ofChange gaugeJustTwoWrong)

/-- 'criaderalaw04.GaugeTables': WHATEVER THE INPUT: true; the input reads as it did. -/
def gaugeTablesSpec : ChangeSpec := { name := "gaugeTables", fn := fun _ => fun
  | [d1, d2, d3] => { results := [.lit (.bool true)], args := [d1, d2, d3] }
  | _ => none }
def gaugeTablesRow : OpenClaim := { program := "ytjfdjjekonkgjaa", sum := "e14c7228fdc58422ca059ed3eb37bf99ff7bda210902a76dab0085f4d4e0923b", func := "criadera/criaderalaw04.GaugeTables", spec := "gaugeTables", inPlace := ["math.sqrt"], unfollowed := true, recurses := true, apart := false }
def GaugeTablesSaid : Prop := gaugeTablesRow.holds Try.pinned (OpenSpec.ofChange gaugeTablesSpec)

/-- ITS FALSE NEIGHBOUR: 'it returns false'. Refute it at one input. -/
def gaugeTablesWrong : ChangeSpec := { name := "gaugeTables", fn := fun _ => fun
  | [d1, d2, d3] => { results := [.lit (.bool false)], args := [d1, d2, d3] }
  | _ => none }
def GaugeTablesWrongFalsely : Prop := gaugeTablesRow.holds Try.pinned (OpenSpec.ofChange gaugeTablesWrong)

/-- 'criaderalaw04.GaugeDips': WHATEVER THE INPUT: true; the input reads as it did. -/
def gaugeDipsSpec : ChangeSpec := { name := "gaugeDips", fn := fun _ => fun
  | [d1, d2] => { results := [.lit (.bool true)], args := [d1, d2] }
  | _ => none }
def gaugeDipsRow : OpenClaim := { program := "ytjfdjjekonkgjaa", sum := "e14c7228fdc58422ca059ed3eb37bf99ff7bda210902a76dab0085f4d4e0923b", func := "criadera/criaderalaw04.GaugeDips", spec := "gaugeDips", inPlace := ["math.sqrt"], unfollowed := true, recurses := true, apart := false }
def GaugeDipsSaid : Prop := gaugeDipsRow.holds Try.pinned (OpenSpec.ofChange gaugeDipsSpec)

/-- ITS FALSE NEIGHBOUR: 'it returns false'. Refute it at one input. -/
def gaugeDipsWrong : ChangeSpec := { name := "gaugeDips", fn := fun _ => fun
  | [d1, d2] => { results := [.lit (.bool false)], args := [d1, d2] }
  | _ => none }
def GaugeDipsWrongFalsely : Prop := gaugeDipsRow.holds Try.pinned (OpenSpec.ofChange gaugeDipsWrong)

/-- 'criaderalaw04.GaugeDippedBack': WHATEVER THE INPUT: true; the input reads as it did. -/
def gaugeDippedBackSpec : ChangeSpec := { name := "gaugeDippedBack", fn := fun _ => fun
  | [d1, d2, d3] => { results := [.lit (.bool true)], args := [d1, d2, d3] }
  | _ => none }
def gaugeDippedBackRow : OpenClaim := { program := "ytjfdjjekonkgjaa", sum := "e14c7228fdc58422ca059ed3eb37bf99ff7bda210902a76dab0085f4d4e0923b", func := "criadera/criaderalaw04.GaugeDippedBack", spec := "gaugeDippedBack", inPlace := ["math.sqrt"], unfollowed := true, recurses := true, apart := false }
def GaugeDippedBackSaid : Prop := gaugeDippedBackRow.holds Try.pinned (OpenSpec.ofChange gaugeDippedBackSpec)

/-- ITS FALSE NEIGHBOUR: 'it returns false'. Refute it at one input. -/
def gaugeDippedBackWrong : ChangeSpec := { name := "gaugeDippedBack", fn := fun _ => fun
  | [d1, d2, d3] => { results := [.lit (.bool false)], args := [d1, d2, d3] }
  | _ => none }
def GaugeDippedBackWrongFalsely : Prop := gaugeDippedBackRow.holds Try.pinned (OpenSpec.ofChange gaugeDippedBackWrong)

/-- 'criaderalaw04.GaugePairs': WHATEVER THE INPUT: true; the input reads as it did. -/
def gaugePairsSpec : ChangeSpec := { name := "gaugePairs", fn := fun _ => fun
  | [d1, d2] => { results := [.lit (.bool true)], args := [d1, d2] }
  | _ => none }
def gaugePairsRow : OpenClaim := { program := "ytjfdjjekonkgjaa", sum := "e14c7228fdc58422ca059ed3eb37bf99ff7bda210902a76dab0085f4d4e0923b", func := "criadera/criaderalaw04.GaugePairs", spec := "gaugePairs", inPlace := ["math.sqrt"], unfollowed := true, recurses := true, apart := false }
def GaugePairsSaid : Prop := gaugePairsRow.holds Try.pinned (OpenSpec.ofChange gaugePairsSpec)

/-- ITS FALSE NEIGHBOUR: 'it returns false'. Refute it at one input. -/
def gaugePairsWrong : ChangeSpec := { name := "gaugePairs", fn := fun _ => fun
  | [d1, d2] => { results := [.lit (.bool false)], args := [d1, d2] }
  | _ => none }
def GaugePairsWrongFalsely : Prop := gaugePairsRow.holds Try.pinned (OpenSpec.ofChange gaugePairsWrong)

/-- 'criaderalaw04.GaugeExpects': WHATEVER THE INPUT: true; the input reads as it did. -/
def gaugeExpectsSpec : ChangeSpec := { name := "gaugeExpects", fn := fun _ => fun
  | [d1, d2] => { results := [.lit (.bool true)], args := [d1, d2] }
  | _ => none }
def gaugeExpectsRow : OpenClaim := { program := "ytjfdjjekonkgjaa", sum := "e14c7228fdc58422ca059ed3eb37bf99ff7bda210902a76dab0085f4d4e0923b", func := "criadera/criaderalaw04.GaugeExpects", spec := "gaugeExpects", inPlace := ["math.sqrt"], unfollowed := true, recurses := true, apart := false }
def GaugeExpectsSaid : Prop := gaugeExpectsRow.holds Try.pinned (OpenSpec.ofChange gaugeExpectsSpec)

/-- ITS FALSE NEIGHBOUR: 'it returns false'. Refute it at one input. -/
def gaugeExpectsWrong : ChangeSpec := { name := "gaugeExpects", fn := fun _ => fun
  | [d1, d2] => { results := [.lit (.bool false)], args := [d1, d2] }
  | _ => none }
def GaugeExpectsWrongFalsely : Prop := gaugeExpectsRow.holds Try.pinned (OpenSpec.ofChange gaugeExpectsWrong)

/- THE SECOND FORM. 'bulk': how many values and letters a reading holds, each counted each time it is reached (what is shared counts as often as it is met; a slice's spare places count too). A statement '..UptoSaid' is the law's where the arguments, and the package variables that the reading takes, are together of bulk at most 1048576: NARROWER than '..Said'. Prove '..Said' where nothing that the law and all that it calls make is longer than what came in: it says more and counts as full. Else prove '..UptoSaid'. A law counts once. -/
mutual
def uptoBulk {H : Type} : DataW H → Nat
  | .lit (.string bytes) => bytes.length + 1
  | .lit _ => 1
  | .nil => 1
  | .ptr d => uptoBulk d + 1
  | .slice elems spare => uptoBulkAll elems + uptoBulkAll spare + 1
  | .agg parts => uptoBulkAll parts + 1
  | .iface _ d => uptoBulk d + 1
  | .map entries => uptoBulkEntries entries + 1
  | .held _ => 1
def uptoBulkAll {H : Type} : List (DataW H) → Nat
  | [] => 0
  | d :: r => uptoBulk d + uptoBulkAll r
def uptoBulkEntries {H : Type} : List (Lit × DataW H) → Nat
  | [] => 0
  | x :: r => uptoBulkEntry x + uptoBulkEntries r
def uptoBulkEntry {H : Type} : Lit × DataW H → Nat
  | (.string bytes, d) => bytes.length + uptoBulk d + 1
  | (_, d) => uptoBulk d + 1
 end
def uptoSmall : (H : Type) → List (DataW H) → Bool := fun _ ds => decide (uptoBulkAll ds ≤ 1048576)
def OpenSpec.upto (s : _root_.Go.ChangeSpec) : _root_.Go.OpenSpec := { _root_.Go.OpenSpec.ofChange s with cond := some uptoSmall }

/-- 'criaderalaw04.GaugeAreas', WHERE WHAT IT READS IS OF BULK AT MOST 1048576: true; the input reads as it did. -/
def gaugeAreasUptoRow : OpenClaim := { program := "ytjfdjjekonkgjaa", sum := "e14c7228fdc58422ca059ed3eb37bf99ff7bda210902a76dab0085f4d4e0923b", func := "criadera/criaderalaw04.GaugeAreas", spec := "gaugeAreas", inPlace := ["math.sqrt"], unfollowed := true, recurses := true, apart := false, narrowed := true }
def GaugeAreasUptoSaid : Prop := gaugeAreasUptoRow.holds Try.pinned (OpenSpec.upto gaugeAreasSpec)

/-- 'criaderalaw04.GaugeVolumes', WHERE WHAT IT READS IS OF BULK AT MOST 1048576: true; the input reads as it did. -/
def gaugeVolumesUptoRow : OpenClaim := { program := "ytjfdjjekonkgjaa", sum := "e14c7228fdc58422ca059ed3eb37bf99ff7bda210902a76dab0085f4d4e0923b", func := "criadera/criaderalaw04.GaugeVolumes", spec := "gaugeVolumes", inPlace := ["math.sqrt"], unfollowed := true, recurses := true, apart := false, narrowed := true }
def GaugeVolumesUptoSaid : Prop := gaugeVolumesUptoRow.holds Try.pinned (OpenSpec.upto gaugeVolumesSpec)

/-- 'criaderalaw04.GaugeDeeper', WHERE WHAT IT READS IS OF BULK AT MOST 1048576: true; the input reads as it did. -/
def gaugeDeeperUptoRow : OpenClaim := { program := "ytjfdjjekonkgjaa", sum := "e14c7228fdc58422ca059ed3eb37bf99ff7bda210902a76dab0085f4d4e0923b", func := "criadera/criaderalaw04.GaugeDeeper", spec := "gaugeDeeper", inPlace := ["math.sqrt"], unfollowed := true, recurses := true, apart := false, narrowed := true }
def GaugeDeeperUptoSaid : Prop := gaugeDeeperUptoRow.holds Try.pinned (OpenSpec.upto gaugeDeeperSpec)

/-- 'criaderalaw04.GaugeBooks', WHERE WHAT IT READS IS OF BULK AT MOST 1048576: true; the input reads as it did. -/
def gaugeBooksUptoRow : OpenClaim := { program := "ytjfdjjekonkgjaa", sum := "e14c7228fdc58422ca059ed3eb37bf99ff7bda210902a76dab0085f4d4e0923b", func := "criadera/criaderalaw04.GaugeBooks", spec := "gaugeBooks", inPlace := ["math.sqrt"], unfollowed := true, recurses := true, apart := false, narrowed := true }
def GaugeBooksUptoSaid : Prop := gaugeBooksUptoRow.holds Try.pinned (OpenSpec.upto gaugeBooksSpec)

/-- 'criaderalaw04.GaugeCasks', WHERE WHAT IT READS IS OF BULK AT MOST 1048576: true; the input reads as it did. -/
def gaugeCasksUptoRow : OpenClaim := { program := "ytjfdjjekonkgjaa", sum := "e14c7228fdc58422ca059ed3eb37bf99ff7bda210902a76dab0085f4d4e0923b", func := "criadera/criaderalaw04.GaugeCasks", spec := "gaugeCasks", inPlace := ["math.sqrt"], unfollowed := true, recurses := true, apart := false, narrowed := true }
def GaugeCasksUptoSaid : Prop := gaugeCasksUptoRow.holds Try.pinned (OpenSpec.upto gaugeCasksSpec)

/-- 'criaderalaw04.GaugeHalves', WHERE WHAT IT READS IS OF BULK AT MOST 1048576: true; the input reads as it did. -/
def gaugeHalvesUptoRow : OpenClaim := { program := "ytjfdjjekonkgjaa", sum := "e14c7228fdc58422ca059ed3eb37bf99ff7bda210902a76dab0085f4d4e0923b", func := "criadera/criaderalaw04.GaugeHalves", spec := "gaugeHalves", inPlace := ["math.sqrt"], unfollowed := true, recurses := true, apart := false, narrowed := true }
def GaugeHalvesUptoSaid : Prop := gaugeHalvesUptoRow.holds Try.pinned (OpenSpec.upto gaugeHalvesSpec)

/-- 'criaderalaw04.GaugeJustTwo', WHERE WHAT IT READS IS OF BULK AT MOST 1048576: true; the input reads as it did. -/
def gaugeJustTwoUptoRow : OpenClaim := { program := "ytjfdjjekonkgjaa", sum := "e14c7228fdc58422ca059ed3eb37bf99ff7bda210902a76dab0085f4d4e0923b", func := "criadera/criaderalaw04.GaugeJustTwo", spec := "gaugeJustTwo", inPlace := ["math.sqrt"], unfollowed := true, recurses := true, apart := false, narrowed := true }
def GaugeJustTwoUptoSaid : Prop := gaugeJustTwoUptoRow.holds Try.pinned (OpenSpec.upto gaugeJustTwoSpec)

/-- 'criaderalaw04.GaugeTables', WHERE WHAT IT READS IS OF BULK AT MOST 1048576: true; the input reads as it did. -/
def gaugeTablesUptoRow : OpenClaim := { program := "ytjfdjjekonkgjaa", sum := "e14c7228fdc58422ca059ed3eb37bf99ff7bda210902a76dab0085f4d4e0923b", func := "criadera/criaderalaw04.GaugeTables", spec := "gaugeTables", inPlace := ["math.sqrt"], unfollowed := true, recurses := true, apart := false, narrowed := true }
def GaugeTablesUptoSaid : Prop := gaugeTablesUptoRow.holds Try.pinned (OpenSpec.upto gaugeTablesSpec)

/-- 'criaderalaw04.GaugeDips', WHERE WHAT IT READS IS OF BULK AT MOST 1048576: true; the input reads as it did. -/
def gaugeDipsUptoRow : OpenClaim := { program := "ytjfdjjekonkgjaa", sum := "e14c7228fdc58422ca059ed3eb37bf99ff7bda210902a76dab0085f4d4e0923b", func := "criadera/criaderalaw04.GaugeDips", spec := "gaugeDips", inPlace := ["math.sqrt"], unfollowed := true, recurses := true, apart := false, narrowed := true }
def GaugeDipsUptoSaid : Prop := gaugeDipsUptoRow.holds Try.pinned (OpenSpec.upto gaugeDipsSpec)

/-- 'criaderalaw04.GaugeDippedBack', WHERE WHAT IT READS IS OF BULK AT MOST 1048576: true; the input reads as it did. -/
def gaugeDippedBackUptoRow : OpenClaim := { program := "ytjfdjjekonkgjaa", sum := "e14c7228fdc58422ca059ed3eb37bf99ff7bda210902a76dab0085f4d4e0923b", func := "criadera/criaderalaw04.GaugeDippedBack", spec := "gaugeDippedBack", inPlace := ["math.sqrt"], unfollowed := true, recurses := true, apart := false, narrowed := true }
def GaugeDippedBackUptoSaid : Prop := gaugeDippedBackUptoRow.holds Try.pinned (OpenSpec.upto gaugeDippedBackSpec)

/-- 'criaderalaw04.GaugePairs', WHERE WHAT IT READS IS OF BULK AT MOST 1048576: true; the input reads as it did. -/
def gaugePairsUptoRow : OpenClaim := { program := "ytjfdjjekonkgjaa", sum := "e14c7228fdc58422ca059ed3eb37bf99ff7bda210902a76dab0085f4d4e0923b", func := "criadera/criaderalaw04.GaugePairs", spec := "gaugePairs", inPlace := ["math.sqrt"], unfollowed := true, recurses := true, apart := false, narrowed := true }
def GaugePairsUptoSaid : Prop := gaugePairsUptoRow.holds Try.pinned (OpenSpec.upto gaugePairsSpec)

/-- 'criaderalaw04.GaugeExpects', WHERE WHAT IT READS IS OF BULK AT MOST 1048576: true; the input reads as it did. -/
def gaugeExpectsUptoRow : OpenClaim := { program := "ytjfdjjekonkgjaa", sum := "e14c7228fdc58422ca059ed3eb37bf99ff7bda210902a76dab0085f4d4e0923b", func := "criadera/criaderalaw04.GaugeExpects", spec := "gaugeExpects", inPlace := ["math.sqrt"], unfollowed := true, recurses := true, apart := false, narrowed := true }
def GaugeExpectsUptoSaid : Prop := gaugeExpectsUptoRow.holds Try.pinned (OpenSpec.upto gaugeExpectsSpec)

end Rows
end Go.Proofs.Ytjfdjjekonkgjaa
