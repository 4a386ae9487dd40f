/-
  DERIVED. GIVEN WITH THE SEED: THE CARDS: each row of YtohilcdmockfbaaDoorRows.lean that lists a variable, with what it lists TIED to the program's text (the seventh form; the later family's looks); each row that meets fmt, with fmt's text TOLD by the authors' own Lean function (tested against real Go, not proved from fmt's source: count such statements apart). THE CARD IS WHAT COUNTS. Prove the row's statement (the work); the ties are given (YtohilcdmockfbaaDoorTie.lean); close each card by the builder's one call (the guide's Derived/Test/ToyasCard.lean, 'card_holds'). Laid BY PROGRAM, IN A SANDBOX (cutbox-door.mjs). By AI agents, Wed Nov 11 2026. No macro, syntax, notation, axiom, sorry.
-/
import Derived.Test.YtohilcdmockfbaaDoorRows
import GoSem.ClaimSeven
namespace Go.Proofs.YtohilcdmockfbaaDoor
namespace Rows

/-- THE TIED CARD OF 'alembiclaw11.WireSets'. -/
def wireSetsCard : Claim7 := { stood := { row := wireSetsRow, standIns := [], harness := (true, "bb79b7651c2e5d610200cd8c88584419501710f2944355ddb6493c4cc2d32369"), looks := true }, kinds := [], alts := [], laidByText := true, laidKinds := [.sentinel], laidTests := true, laidLooks := .later }
def WireSetsCardSaid : Prop := Claim7.holds Tryd.pinned (.plain (OpenSpec.ofChange wireSetsSpec)) wireSetsCard

/-- THE TIED CARD OF 'alembiclaw5.ShakeSums'. -/
def shakeSumsCard : Claim7 := { stood := { row := shakeSumsRow, standIns := [], harness := (true, "bb79b7651c2e5d610200cd8c88584419501710f2944355ddb6493c4cc2d32369"), looks := true }, kinds := [], alts := [], laidByText := true, laidKinds := [.sentinel, .sentinel, .sentinel, .sentinel, .sentinel, .sentinel, .sentinel, .sentinel, .sentinel, .sentinel, .sentinel, .sentinel, .sentinel, .sentinel], laidTests := true, laidLooks := .later }
def ShakeSumsCardSaid : Prop := Claim7.holds Tryd.pinned (.plain (OpenSpec.ofChange shakeSumsSpec)) shakeSumsCard

/-- THE TIED CARD OF 'alembiclaw5.ShakeSays'. -/
def shakeSaysCard : Claim7 := { stood := { row := shakeSaysRow, standIns := [], harness := (true, "bb79b7651c2e5d610200cd8c88584419501710f2944355ddb6493c4cc2d32369"), looks := true }, kinds := [], alts := [], laidByText := true, laidKinds := [.sentinel, .sentinel, .sentinel, .sentinel, .sentinel, .sentinel, .sentinel, .sentinel, .sentinel, .sentinel, .sentinel, .sentinel, .sentinel, .sentinel], laidTests := true, laidLooks := .later }
def ShakeSaysCardSaid : Prop := Claim7.holds Tryd.pinned (.plain (OpenSpec.ofChange shakeSaysSpec)) shakeSaysCard

/-- THE TIED CARD OF 'alembiclaw5.ShakeEdges'. -/
def shakeEdgesCard : Claim7 := { stood := { row := shakeEdgesRow, standIns := [], harness := (true, "bb79b7651c2e5d610200cd8c88584419501710f2944355ddb6493c4cc2d32369"), looks := true }, kinds := [], alts := [], laidByText := true, laidKinds := [.sentinel, .sentinel], laidTests := true, laidLooks := .later }
def ShakeEdgesCardSaid : Prop := Claim7.holds Tryd.pinned (.plain (OpenSpec.ofChange shakeEdgesSpec)) shakeEdgesCard

/-- THE TIED CARD OF 'alembiclaw5.ShakeParts'. -/
def shakePartsCard : Claim7 := { stood := { row := shakePartsRow, standIns := [], harness := (true, "bb79b7651c2e5d610200cd8c88584419501710f2944355ddb6493c4cc2d32369"), looks := true }, kinds := [], alts := [], laidByText := true, laidKinds := [.sentinel, .sentinel, .sentinel, .sentinel, .sentinel, .sentinel, .sentinel, .sentinel, .sentinel, .sentinel, .sentinel, .sentinel, .sentinel, .sentinel], laidTests := true, laidLooks := .later }
def ShakePartsCardSaid : Prop := Claim7.holds Tryd.pinned (.plain (OpenSpec.ofChange shakePartsSpec)) shakePartsCard

/-- THE SECOND FORM's CARD OF 'alembiclaw11.WireSets'. -/
def wireSetsUptoCard : Claim7 := { stood := { row := wireSetsUptoRow, standIns := [], harness := (true, "bb79b7651c2e5d610200cd8c88584419501710f2944355ddb6493c4cc2d32369"), looks := true }, kinds := [], alts := [], laidByText := true, laidKinds := [.sentinel], laidTests := true, laidLooks := .later }
def WireSetsUptoCardSaid : Prop := Claim7.holds Tryd.pinned (.plain (OpenSpec.upto wireSetsSpec)) wireSetsUptoCard

/-- THE SECOND FORM's CARD OF 'alembiclaw5.ShakeSums'. -/
def shakeSumsUptoCard : Claim7 := { stood := { row := shakeSumsUptoRow, standIns := [], harness := (true, "bb79b7651c2e5d610200cd8c88584419501710f2944355ddb6493c4cc2d32369"), looks := true }, kinds := [], alts := [], laidByText := true, laidKinds := [.sentinel, .sentinel, .sentinel, .sentinel, .sentinel, .sentinel, .sentinel, .sentinel, .sentinel, .sentinel, .sentinel, .sentinel, .sentinel, .sentinel], laidTests := true, laidLooks := .later }
def ShakeSumsUptoCardSaid : Prop := Claim7.holds Tryd.pinned (.plain (OpenSpec.upto shakeSumsSpec)) shakeSumsUptoCard

/-- THE SECOND FORM's CARD OF 'alembiclaw5.ShakeSays'. -/
def shakeSaysUptoCard : Claim7 := { stood := { row := shakeSaysUptoRow, standIns := [], harness := (true, "bb79b7651c2e5d610200cd8c88584419501710f2944355ddb6493c4cc2d32369"), looks := true }, kinds := [], alts := [], laidByText := true, laidKinds := [.sentinel, .sentinel, .sentinel, .sentinel, .sentinel, .sentinel, .sentinel, .sentinel, .sentinel, .sentinel, .sentinel, .sentinel, .sentinel, .sentinel], laidTests := true, laidLooks := .later }
def ShakeSaysUptoCardSaid : Prop := Claim7.holds Tryd.pinned (.plain (OpenSpec.upto shakeSaysSpec)) shakeSaysUptoCard

/-- THE SECOND FORM's CARD OF 'alembiclaw5.ShakeEdges'. -/
def shakeEdgesUptoCard : Claim7 := { stood := { row := shakeEdgesUptoRow, standIns := [], harness := (true, "bb79b7651c2e5d610200cd8c88584419501710f2944355ddb6493c4cc2d32369"), looks := true }, kinds := [], alts := [], laidByText := true, laidKinds := [.sentinel, .sentinel], laidTests := true, laidLooks := .later }
def ShakeEdgesUptoCardSaid : Prop := Claim7.holds Tryd.pinned (.plain (OpenSpec.upto shakeEdgesSpec)) shakeEdgesUptoCard

/-- THE SECOND FORM's CARD OF 'alembiclaw5.ShakeParts'. -/
def shakePartsUptoCard : Claim7 := { stood := { row := shakePartsUptoRow, standIns := [], harness := (true, "bb79b7651c2e5d610200cd8c88584419501710f2944355ddb6493c4cc2d32369"), looks := true }, kinds := [], alts := [], laidByText := true, laidKinds := [.sentinel, .sentinel, .sentinel, .sentinel, .sentinel, .sentinel, .sentinel, .sentinel, .sentinel, .sentinel, .sentinel, .sentinel, .sentinel, .sentinel], laidTests := true, laidLooks := .later }
def ShakePartsUptoCardSaid : Prop := Claim7.holds Tryd.pinned (.plain (OpenSpec.upto shakePartsSpec)) shakePartsUptoCard
end Rows
end Go.Proofs.YtohilcdmockfbaaDoor
