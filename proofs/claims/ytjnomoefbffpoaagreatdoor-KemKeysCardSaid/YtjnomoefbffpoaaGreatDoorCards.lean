/-
  DERIVED. GIVEN WITH THE SEED: THE CARDS: each row of YtjnomoefbffpoaaGreatDoorRows.lean that lists a variable, with what it lists TIED to the program's text (the seventh form; the later family's looks); each row that meets fmt, with fmt's text TOLD by the authors' own Lean function (tested against real Go, not proved from fmt's source: count such statements apart). THE CARD IS WHAT COUNTS. Prove the row's statement (the work); the ties are given (YtjnomoefbffpoaaGreatDoorTie.lean); close each card by the builder's one call (the guide's Derived/Test/ToyasCard.lean, 'card_holds'). Laid BY PROGRAM, IN A SANDBOX (cutbox-door.mjs). By AI agents, Wed Nov 11 2026. No macro, syntax, notation, axiom, sorry.
-/
import Derived.Test.YtjnomoefbffpoaaGreatDoorRows
import GoSem.ClaimSeven
namespace Go.Proofs.YtjnomoefbffpoaaGreatDoor
namespace Rows

/-- THE TIED CARD OF 'alembiclaw10.KemKeys'. -/
def kemKeysCard : Claim7 := { stood := { row := kemKeysRow, standIns := [], harness := (true, "454af624f34f1fd7ca12ac4a7f2b50a06b3f09ed775e46d63cbfefc236f52e13"), looks := true }, kinds := [], alts := [], laidByText := true, laidKinds := [.sentinel, .sentinel, .sentinel, .sentinel, .sentinel, .sentinel, .sentinel, .sentinel, .sentinel, .sentinel, .sentinel, .sentinel, .sentinel, .sentinel], laidTests := true, laidLooks := .later }
def KemKeysCardSaid : Prop := Claim7.holds Tryz.pinned (.plain (OpenSpec.ofChange kemKeysSpec)) kemKeysCard

/-- THE TIED CARD OF 'alembiclaw10.KemEncaps'. -/
def kemEncapsCard : Claim7 := { stood := { row := kemEncapsRow, standIns := [], harness := (true, "454af624f34f1fd7ca12ac4a7f2b50a06b3f09ed775e46d63cbfefc236f52e13"), looks := true }, kinds := [], alts := [], laidByText := true, laidKinds := [.sentinel, .sentinel, .sentinel, .sentinel, .sentinel, .sentinel, .sentinel, .sentinel, .sentinel, .sentinel, .sentinel, .sentinel, .sentinel, .sentinel], laidTests := true, laidLooks := .later }
def KemEncapsCardSaid : Prop := Claim7.holds Tryz.pinned (.plain (OpenSpec.ofChange kemEncapsSpec)) kemEncapsCard

/-- THE TIED CARD OF 'alembiclaw10.KemDecaps'. -/
def kemDecapsCard : Claim7 := { stood := { row := kemDecapsRow, standIns := [], harness := (true, "454af624f34f1fd7ca12ac4a7f2b50a06b3f09ed775e46d63cbfefc236f52e13"), looks := true }, kinds := [], alts := [], laidByText := true, laidKinds := [.sentinel, .sentinel, .sentinel, .sentinel, .sentinel, .sentinel, .sentinel, .sentinel, .sentinel, .sentinel, .sentinel, .sentinel, .sentinel, .sentinel], laidTests := true, laidLooks := .later }
def KemDecapsCardSaid : Prop := Claim7.holds Tryz.pinned (.plain (OpenSpec.ofChange kemDecapsSpec)) kemDecapsCard

/-- THE TIED CARD OF 'alembiclaw10.KemBent'. -/
def kemBentCard : Claim7 := { stood := { row := kemBentRow, standIns := [], harness := (true, "454af624f34f1fd7ca12ac4a7f2b50a06b3f09ed775e46d63cbfefc236f52e13"), looks := true }, kinds := [], alts := [], laidByText := true, laidKinds := [.sentinel, .sentinel, .sentinel, .sentinel, .sentinel, .sentinel, .sentinel, .sentinel, .sentinel, .sentinel, .sentinel, .sentinel, .sentinel, .sentinel], laidTests := true, laidLooks := .later }
def KemBentCardSaid : Prop := Claim7.holds Tryz.pinned (.plain (OpenSpec.ofChange kemBentSpec)) kemBentCard

/-- THE SECOND FORM's CARD OF 'alembiclaw10.KemKeys'. -/
def kemKeysUptoCard : Claim7 := { stood := { row := kemKeysUptoRow, standIns := [], harness := (true, "454af624f34f1fd7ca12ac4a7f2b50a06b3f09ed775e46d63cbfefc236f52e13"), looks := true }, kinds := [], alts := [], laidByText := true, laidKinds := [.sentinel, .sentinel, .sentinel, .sentinel, .sentinel, .sentinel, .sentinel, .sentinel, .sentinel, .sentinel, .sentinel, .sentinel, .sentinel, .sentinel], laidTests := true, laidLooks := .later }
def KemKeysUptoCardSaid : Prop := Claim7.holds Tryz.pinned (.plain (OpenSpec.upto kemKeysSpec)) kemKeysUptoCard

/-- THE SECOND FORM's CARD OF 'alembiclaw10.KemEncaps'. -/
def kemEncapsUptoCard : Claim7 := { stood := { row := kemEncapsUptoRow, standIns := [], harness := (true, "454af624f34f1fd7ca12ac4a7f2b50a06b3f09ed775e46d63cbfefc236f52e13"), looks := true }, kinds := [], alts := [], laidByText := true, laidKinds := [.sentinel, .sentinel, .sentinel, .sentinel, .sentinel, .sentinel, .sentinel, .sentinel, .sentinel, .sentinel, .sentinel, .sentinel, .sentinel, .sentinel], laidTests := true, laidLooks := .later }
def KemEncapsUptoCardSaid : Prop := Claim7.holds Tryz.pinned (.plain (OpenSpec.upto kemEncapsSpec)) kemEncapsUptoCard

/-- THE SECOND FORM's CARD OF 'alembiclaw10.KemDecaps'. -/
def kemDecapsUptoCard : Claim7 := { stood := { row := kemDecapsUptoRow, standIns := [], harness := (true, "454af624f34f1fd7ca12ac4a7f2b50a06b3f09ed775e46d63cbfefc236f52e13"), looks := true }, kinds := [], alts := [], laidByText := true, laidKinds := [.sentinel, .sentinel, .sentinel, .sentinel, .sentinel, .sentinel, .sentinel, .sentinel, .sentinel, .sentinel, .sentinel, .sentinel, .sentinel, .sentinel], laidTests := true, laidLooks := .later }
def KemDecapsUptoCardSaid : Prop := Claim7.holds Tryz.pinned (.plain (OpenSpec.upto kemDecapsSpec)) kemDecapsUptoCard

/-- THE SECOND FORM's CARD OF 'alembiclaw10.KemBent'. -/
def kemBentUptoCard : Claim7 := { stood := { row := kemBentUptoRow, standIns := [], harness := (true, "454af624f34f1fd7ca12ac4a7f2b50a06b3f09ed775e46d63cbfefc236f52e13"), looks := true }, kinds := [], alts := [], laidByText := true, laidKinds := [.sentinel, .sentinel, .sentinel, .sentinel, .sentinel, .sentinel, .sentinel, .sentinel, .sentinel, .sentinel, .sentinel, .sentinel, .sentinel, .sentinel], laidTests := true, laidLooks := .later }
def KemBentUptoCardSaid : Prop := Claim7.holds Tryz.pinned (.plain (OpenSpec.upto kemBentSpec)) kemBentUptoCard
end Rows
end Go.Proofs.YtjnomoefbffpoaaGreatDoor
