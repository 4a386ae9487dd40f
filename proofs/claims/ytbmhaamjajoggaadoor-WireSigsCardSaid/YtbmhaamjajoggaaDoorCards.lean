/-
  DERIVED. GIVEN WITH THE SEED: THE CARDS: each row of YtbmhaamjajoggaaDoorRows.lean that lists a variable, with what it lists TIED to the program's text (the seventh form; the later family's looks); each row that meets fmt, with fmt's text TOLD by the authors' own Lean function (tested against real Go, not proved from fmt's source: count such statements apart). THE CARD IS WHAT COUNTS. Prove the row's statement (the work); the ties are given (YtbmhaamjajoggaaDoorTie.lean); close each card by the builder's one call (the guide's Derived/Test/ToyasCard.lean, 'card_holds'). Laid BY PROGRAM, IN A SANDBOX (cutbox-door.mjs). By AI agents, Wed Nov 11 2026. No macro, syntax, notation, axiom, sorry.
-/
import Derived.Test.YtbmhaamjajoggaaDoorRows
import GoSem.ClaimSeven
namespace Go.Proofs.YtbmhaamjajoggaaDoor
namespace Rows

/-- THE TIED CARD OF 'alembiclaw11.WireHints'. -/
def wireHintsCard : Claim7 := { stood := { row := wireHintsRow, standIns := [], harness := (true, "887931dc4a6c0b6c7dff82051388d74c51743a57a10fcb7a13ad196d7db6621b"), looks := true }, kinds := [], alts := [], laidByText := true, laidKinds := [.sentinel, .sentinel, .sentinel, .sentinel, .sentinel, .sentinel, .sentinel, .sentinel, .sentinel, .sentinel, .sentinel, .sentinel, .sentinel, .sentinel], laidTests := true, laidLooks := .later }
def WireHintsCardSaid : Prop := Claim7.holds Tryd.pinned (.plain (OpenSpec.ofChange wireHintsSpec)) wireHintsCard

/-- THE TIED CARD OF 'alembiclaw11.WireSigs'. -/
def wireSigsCard : Claim7 := { stood := { row := wireSigsRow, standIns := [], harness := (true, "887931dc4a6c0b6c7dff82051388d74c51743a57a10fcb7a13ad196d7db6621b"), looks := true }, kinds := [], alts := [], laidByText := true, laidKinds := [.sentinel, .sentinel, .sentinel, .sentinel, .sentinel, .sentinel, .sentinel, .sentinel, .sentinel, .sentinel, .sentinel, .sentinel, .sentinel, .sentinel], laidTests := true, laidLooks := .later }
def WireSigsCardSaid : Prop := Claim7.holds Tryd.pinned (.plain (OpenSpec.ofChange wireSigsSpec)) wireSigsCard

/-- THE TIED CARD OF 'alembiclaw11.WireKeys'. -/
def wireKeysCard : Claim7 := { stood := { row := wireKeysRow, standIns := [], harness := (true, "887931dc4a6c0b6c7dff82051388d74c51743a57a10fcb7a13ad196d7db6621b"), looks := true }, kinds := [], alts := [], laidByText := true, laidKinds := [.sentinel, .sentinel, .sentinel, .sentinel, .sentinel, .sentinel, .sentinel, .sentinel, .sentinel, .sentinel, .sentinel, .sentinel, .sentinel, .sentinel], laidTests := true, laidLooks := .later }
def WireKeysCardSaid : Prop := Claim7.holds Tryd.pinned (.plain (OpenSpec.ofChange wireKeysSpec)) wireKeysCard

/-- THE TIED CARD OF 'alembiclaw11.WireBack'. -/
def wireBackCard : Claim7 := { stood := { row := wireBackRow, standIns := [], harness := (true, "887931dc4a6c0b6c7dff82051388d74c51743a57a10fcb7a13ad196d7db6621b"), looks := true }, kinds := [], alts := [], laidByText := true, laidKinds := [.sentinel, .sentinel, .sentinel, .sentinel], laidTests := true, laidLooks := .later }
def WireBackCardSaid : Prop := Claim7.holds Tryd.pinned (.plain (OpenSpec.ofChange wireBackSpec)) wireBackCard

/-- THE SECOND FORM's CARD OF 'alembiclaw11.WireHints'. -/
def wireHintsUptoCard : Claim7 := { stood := { row := wireHintsUptoRow, standIns := [], harness := (true, "887931dc4a6c0b6c7dff82051388d74c51743a57a10fcb7a13ad196d7db6621b"), looks := true }, kinds := [], alts := [], laidByText := true, laidKinds := [.sentinel, .sentinel, .sentinel, .sentinel, .sentinel, .sentinel, .sentinel, .sentinel, .sentinel, .sentinel, .sentinel, .sentinel, .sentinel, .sentinel], laidTests := true, laidLooks := .later }
def WireHintsUptoCardSaid : Prop := Claim7.holds Tryd.pinned (.plain (OpenSpec.upto wireHintsSpec)) wireHintsUptoCard

/-- THE SECOND FORM's CARD OF 'alembiclaw11.WireSigs'. -/
def wireSigsUptoCard : Claim7 := { stood := { row := wireSigsUptoRow, standIns := [], harness := (true, "887931dc4a6c0b6c7dff82051388d74c51743a57a10fcb7a13ad196d7db6621b"), looks := true }, kinds := [], alts := [], laidByText := true, laidKinds := [.sentinel, .sentinel, .sentinel, .sentinel, .sentinel, .sentinel, .sentinel, .sentinel, .sentinel, .sentinel, .sentinel, .sentinel, .sentinel, .sentinel], laidTests := true, laidLooks := .later }
def WireSigsUptoCardSaid : Prop := Claim7.holds Tryd.pinned (.plain (OpenSpec.upto wireSigsSpec)) wireSigsUptoCard

/-- THE SECOND FORM's CARD OF 'alembiclaw11.WireKeys'. -/
def wireKeysUptoCard : Claim7 := { stood := { row := wireKeysUptoRow, standIns := [], harness := (true, "887931dc4a6c0b6c7dff82051388d74c51743a57a10fcb7a13ad196d7db6621b"), looks := true }, kinds := [], alts := [], laidByText := true, laidKinds := [.sentinel, .sentinel, .sentinel, .sentinel, .sentinel, .sentinel, .sentinel, .sentinel, .sentinel, .sentinel, .sentinel, .sentinel, .sentinel, .sentinel], laidTests := true, laidLooks := .later }
def WireKeysUptoCardSaid : Prop := Claim7.holds Tryd.pinned (.plain (OpenSpec.upto wireKeysSpec)) wireKeysUptoCard

/-- THE SECOND FORM's CARD OF 'alembiclaw11.WireBack'. -/
def wireBackUptoCard : Claim7 := { stood := { row := wireBackUptoRow, standIns := [], harness := (true, "887931dc4a6c0b6c7dff82051388d74c51743a57a10fcb7a13ad196d7db6621b"), looks := true }, kinds := [], alts := [], laidByText := true, laidKinds := [.sentinel, .sentinel, .sentinel, .sentinel], laidTests := true, laidLooks := .later }
def WireBackUptoCardSaid : Prop := Claim7.holds Tryd.pinned (.plain (OpenSpec.upto wireBackSpec)) wireBackUptoCard
end Rows
end Go.Proofs.YtbmhaamjajoggaaDoor
