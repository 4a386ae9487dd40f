/-
  DERIVED. GIVEN WITH THE SEED: THE CARDS: each row of YthfbehemcpghaaaDoorRows.lean that lists a variable, with what it lists TIED to the program's text (the seventh form; the later family's looks); each row that meets fmt, with fmt's text TOLD by the authors' own Lean function (tested against real Go, not proved from fmt's source: count such statements apart). THE CARD IS WHAT COUNTS. Prove the row's statement (the work); the ties are given (YthfbehemcpghaaaDoorTie.lean); close each card by the builder's one call (the guide's Derived/Test/ToyasCard.lean, 'card_holds'). Laid BY PROGRAM, IN A SANDBOX (cutbox-door.mjs). By AI agents, Wed Nov 11 2026. No macro, syntax, notation, axiom, sorry.
-/
import Derived.Test.YthfbehemcpghaaaDoorRows
import GoSem.ClaimSeven
namespace Go.Proofs.YthfbehemcpghaaaDoor
namespace Rows

/-- THE TIED CARD OF 'alembiclaw1.ZqPowers'. -/
def zqPowersCard : Claim7 := { stood := { row := zqPowersRow, standIns := [], harness := (true, "901f66fe2c9986d6fd102a3ef7a4c9c05bca1b1fa904a2dd584b410a4c072f8f"), looks := false }, kinds := [], alts := [], laidByText := true, laidKinds := [.sentinel], laidTests := true, laidLooks := .later }
def ZqPowersCardSaid : Prop := Claim7.holds Tryd.pinned (.plain (OpenSpec.ofChange zqPowersSpec)) zqPowersCard

/-- THE TIED CARD OF 'alembiclaw1.ZqField'. -/
def zqFieldCard : Claim7 := { stood := { row := zqFieldRow, standIns := [], harness := (true, "901f66fe2c9986d6fd102a3ef7a4c9c05bca1b1fa904a2dd584b410a4c072f8f"), looks := false }, kinds := [], alts := [], laidByText := true, laidKinds := [.sentinel], laidTests := true, laidLooks := .later }
def ZqFieldCardSaid : Prop := Claim7.holds Tryd.pinned (.plain (OpenSpec.ofChange zqFieldSpec)) zqFieldCard

/-- THE TIED CARD OF 'alembiclaw1.ZqCenter'. -/
def zqCenterCard : Claim7 := { stood := { row := zqCenterRow, standIns := [], harness := (true, "901f66fe2c9986d6fd102a3ef7a4c9c05bca1b1fa904a2dd584b410a4c072f8f"), looks := false }, kinds := [], alts := [], laidByText := true, laidKinds := [.sentinel], laidTests := true, laidLooks := .later }
def ZqCenterCardSaid : Prop := Claim7.holds Tryd.pinned (.plain (OpenSpec.ofChange zqCenterSpec)) zqCenterCard

/-- THE SECOND FORM's CARD OF 'alembiclaw1.ZqPowers'. -/
def zqPowersUptoCard : Claim7 := { stood := { row := zqPowersUptoRow, standIns := [], harness := (true, "901f66fe2c9986d6fd102a3ef7a4c9c05bca1b1fa904a2dd584b410a4c072f8f"), looks := false }, kinds := [], alts := [], laidByText := true, laidKinds := [.sentinel], laidTests := true, laidLooks := .later }
def ZqPowersUptoCardSaid : Prop := Claim7.holds Tryd.pinned (.plain (OpenSpec.upto zqPowersSpec)) zqPowersUptoCard

/-- THE SECOND FORM's CARD OF 'alembiclaw1.ZqField'. -/
def zqFieldUptoCard : Claim7 := { stood := { row := zqFieldUptoRow, standIns := [], harness := (true, "901f66fe2c9986d6fd102a3ef7a4c9c05bca1b1fa904a2dd584b410a4c072f8f"), looks := false }, kinds := [], alts := [], laidByText := true, laidKinds := [.sentinel], laidTests := true, laidLooks := .later }
def ZqFieldUptoCardSaid : Prop := Claim7.holds Tryd.pinned (.plain (OpenSpec.upto zqFieldSpec)) zqFieldUptoCard

/-- THE SECOND FORM's CARD OF 'alembiclaw1.ZqCenter'. -/
def zqCenterUptoCard : Claim7 := { stood := { row := zqCenterUptoRow, standIns := [], harness := (true, "901f66fe2c9986d6fd102a3ef7a4c9c05bca1b1fa904a2dd584b410a4c072f8f"), looks := false }, kinds := [], alts := [], laidByText := true, laidKinds := [.sentinel], laidTests := true, laidLooks := .later }
def ZqCenterUptoCardSaid : Prop := Claim7.holds Tryd.pinned (.plain (OpenSpec.upto zqCenterSpec)) zqCenterUptoCard
end Rows
end Go.Proofs.YthfbehemcpghaaaDoor
