/-
  DERIVED. GIVEN WITH THE SEED: THE CARDS: each row of YtjnomoefbffpoaaDoorRows.lean that lists a variable, with what it lists TIED to the program's text (the seventh form; the later family's looks); each row that meets fmt, with fmt's text TOLD by the authors' own Lean function (tested against real Go, not proved from fmt's source: count such statements apart). THE CARD IS WHAT COUNTS. Prove the row's statement (the work); the ties are given (YtjnomoefbffpoaaDoorTie.lean); close each card by the builder's one call (the guide's Derived/Test/ToyasCard.lean, 'card_holds'). Laid BY PROGRAM, IN A SANDBOX (cutbox-door.mjs). By AI agents, Wed Nov 11 2026. No macro, syntax, notation, axiom, sorry.
-/
import Derived.Test.YtjnomoefbffpoaaDoorRows
import GoSem.ClaimSeven
namespace Go.Proofs.YtjnomoefbffpoaaDoor
namespace Rows

/-- THE TIED CARD OF 'alembiclaw5.ShakeSays'. -/
def shakeSaysCard : Claim7 := { stood := { row := shakeSaysRow, standIns := [], harness := (true, "e2588a0ada3e34b0daf3546e280a9dd514f4ace0eead3f20c128d2bcd1f576a1"), looks := true }, kinds := [], alts := [], laidByText := true, laidKinds := [.sentinel, .sentinel, .sentinel, .sentinel, .sentinel, .sentinel, .sentinel, .sentinel, .sentinel, .sentinel, .sentinel, .sentinel, .sentinel, .sentinel], laidTests := true, laidLooks := .later }
def ShakeSaysCardSaid : Prop := Claim7.holds Tryd.pinned (.plain (OpenSpec.ofChange shakeSaysSpec)) shakeSaysCard

/-- THE TIED CARD OF 'alembiclaw10.KemLengths'. -/
def kemLengthsCard : Claim7 := { stood := { row := kemLengthsRow, standIns := [], harness := (true, "e2588a0ada3e34b0daf3546e280a9dd514f4ace0eead3f20c128d2bcd1f576a1"), looks := true }, kinds := [], alts := [], laidByText := true, laidKinds := [.sentinel, .sentinel, .sentinel, .sentinel, .sentinel, .sentinel, .sentinel, .sentinel, .sentinel, .sentinel, .sentinel, .sentinel, .sentinel, .sentinel], laidTests := true, laidLooks := .later }
def KemLengthsCardSaid : Prop := Claim7.holds Tryd.pinned (.plain (OpenSpec.ofChange kemLengthsSpec)) kemLengthsCard

/-- THE TIED CARD OF 'alembiclaw10.KemAgree'. -/
def kemAgreeCard : Claim7 := { stood := { row := kemAgreeRow, standIns := [], harness := (true, "e2588a0ada3e34b0daf3546e280a9dd514f4ace0eead3f20c128d2bcd1f576a1"), looks := true }, kinds := [], alts := [], laidByText := true, laidKinds := [.sentinel, .sentinel, .sentinel], laidTests := true, laidLooks := .later }
def KemAgreeCardSaid : Prop := Claim7.holds Tryd.pinned (.plain (OpenSpec.ofChange kemAgreeSpec)) kemAgreeCard

/-- THE TIED CARD OF 'alembiclaw10.KemRejects'. -/
def kemRejectsCard : Claim7 := { stood := { row := kemRejectsRow, standIns := [], harness := (true, "e2588a0ada3e34b0daf3546e280a9dd514f4ace0eead3f20c128d2bcd1f576a1"), looks := true }, kinds := [], alts := [], laidByText := true, laidKinds := [.sentinel, .sentinel, .sentinel], laidTests := true, laidLooks := .later }
def KemRejectsCardSaid : Prop := Claim7.holds Tryd.pinned (.plain (OpenSpec.ofChange kemRejectsSpec)) kemRejectsCard

/-- THE SECOND FORM's CARD OF 'alembiclaw5.ShakeSays'. -/
def shakeSaysUptoCard : Claim7 := { stood := { row := shakeSaysUptoRow, standIns := [], harness := (true, "e2588a0ada3e34b0daf3546e280a9dd514f4ace0eead3f20c128d2bcd1f576a1"), looks := true }, kinds := [], alts := [], laidByText := true, laidKinds := [.sentinel, .sentinel, .sentinel, .sentinel, .sentinel, .sentinel, .sentinel, .sentinel, .sentinel, .sentinel, .sentinel, .sentinel, .sentinel, .sentinel], laidTests := true, laidLooks := .later }
def ShakeSaysUptoCardSaid : Prop := Claim7.holds Tryd.pinned (.plain (OpenSpec.upto shakeSaysSpec)) shakeSaysUptoCard

/-- THE SECOND FORM's CARD OF 'alembiclaw10.KemLengths'. -/
def kemLengthsUptoCard : Claim7 := { stood := { row := kemLengthsUptoRow, standIns := [], harness := (true, "e2588a0ada3e34b0daf3546e280a9dd514f4ace0eead3f20c128d2bcd1f576a1"), looks := true }, kinds := [], alts := [], laidByText := true, laidKinds := [.sentinel, .sentinel, .sentinel, .sentinel, .sentinel, .sentinel, .sentinel, .sentinel, .sentinel, .sentinel, .sentinel, .sentinel, .sentinel, .sentinel], laidTests := true, laidLooks := .later }
def KemLengthsUptoCardSaid : Prop := Claim7.holds Tryd.pinned (.plain (OpenSpec.upto kemLengthsSpec)) kemLengthsUptoCard

/-- THE SECOND FORM's CARD OF 'alembiclaw10.KemAgree'. -/
def kemAgreeUptoCard : Claim7 := { stood := { row := kemAgreeUptoRow, standIns := [], harness := (true, "e2588a0ada3e34b0daf3546e280a9dd514f4ace0eead3f20c128d2bcd1f576a1"), looks := true }, kinds := [], alts := [], laidByText := true, laidKinds := [.sentinel, .sentinel, .sentinel], laidTests := true, laidLooks := .later }
def KemAgreeUptoCardSaid : Prop := Claim7.holds Tryd.pinned (.plain (OpenSpec.upto kemAgreeSpec)) kemAgreeUptoCard

/-- THE SECOND FORM's CARD OF 'alembiclaw10.KemRejects'. -/
def kemRejectsUptoCard : Claim7 := { stood := { row := kemRejectsUptoRow, standIns := [], harness := (true, "e2588a0ada3e34b0daf3546e280a9dd514f4ace0eead3f20c128d2bcd1f576a1"), looks := true }, kinds := [], alts := [], laidByText := true, laidKinds := [.sentinel, .sentinel, .sentinel], laidTests := true, laidLooks := .later }
def KemRejectsUptoCardSaid : Prop := Claim7.holds Tryd.pinned (.plain (OpenSpec.upto kemRejectsSpec)) kemRejectsUptoCard
end Rows
end Go.Proofs.YtjnomoefbffpoaaDoor
