/-
  DERIVED. GIVEN WITH THE SEED: THE CARDS: each row of YtkjglhamlnnboaaDoorRows.lean that lists a variable, with what it lists TIED to the program's text (the seventh form; the later family's looks); each row that meets fmt, with fmt's text TOLD by the authors' own Lean function (tested against real Go, not proved from fmt's source: count such statements apart). THE CARD IS WHAT COUNTS. Prove the row's statement (the work); the ties are given (YtkjglhamlnnboaaDoorTie.lean); close each card by the builder's one call (the guide's Derived/Test/ToyasCard.lean, 'card_holds'). Laid BY PROGRAM, IN A SANDBOX (cutbox-door.mjs). By AI agents, Wed Nov 11 2026. No macro, syntax, notation, axiom, sorry.
-/
import Derived.Test.YtkjglhamlnnboaaDoorRows
import GoSem.ClaimSeven
namespace Go.Proofs.YtkjglhamlnnboaaDoor
namespace Rows

/-- THE TIED CARD OF 'tautochronelaw04.TreeText'. -/
def treeTextCard : Claim7 := { stood := { row := treeTextRow, standIns := [], harness := (true, "939ee281b41b22142a952dae5043cf60e50e589b31a7c1974bf95a3e97ca4f34"), looks := false }, kinds := [], alts := [], laidByText := true, laidKinds := [.data, .data, .data], laidTests := true, laidLooks := .later }
def TreeTextCardSaid : Prop := Claim7.holds Tryd.pinned (.plain (OpenSpec.ofChange treeTextSpec)) treeTextCard

/-- THE TIED CARD OF 'tautochronelaw04.TreeLines'. -/
def treeLinesCard : Claim7 := { stood := { row := treeLinesRow, standIns := [], harness := (true, "939ee281b41b22142a952dae5043cf60e50e589b31a7c1974bf95a3e97ca4f34"), looks := false }, kinds := [], alts := [], laidByText := true, laidKinds := [.data, .data, .data], laidTests := true, laidLooks := .later }
def TreeLinesCardSaid : Prop := Claim7.holds Tryd.pinned (.plain (OpenSpec.ofChange treeLinesSpec)) treeLinesCard

/-- THE SECOND FORM's CARD OF 'tautochronelaw04.TreeText'. -/
def treeTextUptoCard : Claim7 := { stood := { row := treeTextUptoRow, standIns := [], harness := (true, "939ee281b41b22142a952dae5043cf60e50e589b31a7c1974bf95a3e97ca4f34"), looks := false }, kinds := [], alts := [], laidByText := true, laidKinds := [.data, .data, .data], laidTests := true, laidLooks := .later }
def TreeTextUptoCardSaid : Prop := Claim7.holds Tryd.pinned (.plain (OpenSpec.upto treeTextSpec)) treeTextUptoCard

/-- THE SECOND FORM's CARD OF 'tautochronelaw04.TreeLines'. -/
def treeLinesUptoCard : Claim7 := { stood := { row := treeLinesUptoRow, standIns := [], harness := (true, "939ee281b41b22142a952dae5043cf60e50e589b31a7c1974bf95a3e97ca4f34"), looks := false }, kinds := [], alts := [], laidByText := true, laidKinds := [.data, .data, .data], laidTests := true, laidLooks := .later }
def TreeLinesUptoCardSaid : Prop := Claim7.holds Tryd.pinned (.plain (OpenSpec.upto treeLinesSpec)) treeLinesUptoCard
end Rows
end Go.Proofs.YtkjglhamlnnboaaDoor
