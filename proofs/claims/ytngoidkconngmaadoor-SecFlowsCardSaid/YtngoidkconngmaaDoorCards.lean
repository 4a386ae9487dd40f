/-
  DERIVED. GIVEN WITH THE SEED: THE CARDS: each row of YtngoidkconngmaaDoorRows.lean that lists a variable, with what it lists TIED to the program's text (the seventh form; the later family's looks); each row that meets fmt, with fmt's text TOLD by the authors' own Lean function (tested against real Go, not proved from fmt's source: count such statements apart). THE CARD IS WHAT COUNTS. Prove the row's statement (the work); the ties are given (YtngoidkconngmaaDoorTie.lean); close each card by the builder's one call (the guide's Derived/Test/ToyasCard.lean, 'card_holds'). Laid BY PROGRAM, IN A SANDBOX (cutbox-door.mjs). By AI agents, Wed Nov 11 2026. No macro, syntax, notation, axiom, sorry.
-/
import Derived.Test.YtngoidkconngmaaDoorRows
import GoSem.ClaimSeven
namespace Go.Proofs.YtngoidkconngmaaDoor
namespace Rows

/-- THE TIED CARD OF 'alembiclaw9.DrawUniform'. -/
def drawUniformCard : Claim7 := { stood := { row := drawUniformRow, standIns := [], harness := (true, "1564b49c0a694d209d075bdb2fb476862b08696b0d1ed29d7b1c9a775900b381"), looks := true }, kinds := [], alts := [], laidByText := true, laidKinds := [.sentinel, .sentinel], laidTests := true, laidLooks := .later }
def DrawUniformCardSaid : Prop := Claim7.holds Tryd.pinned (.plain (OpenSpec.ofChange drawUniformSpec)) drawUniformCard

/-- THE TIED CARD OF 'alembiclaw9.DrawRow'. -/
def drawRowCard : Claim7 := { stood := { row := drawRowRow, standIns := [], harness := (true, "1564b49c0a694d209d075bdb2fb476862b08696b0d1ed29d7b1c9a775900b381"), looks := true }, kinds := [], alts := [], laidByText := true, laidKinds := [.sentinel, .sentinel], laidTests := true, laidLooks := .later }
def DrawRowCardSaid : Prop := Claim7.holds Tryd.pinned (.plain (OpenSpec.ofChange drawRowSpec)) drawRowCard

/-- THE TIED CARD OF 'alembiclaw14.SecFlows'. -/
def secFlowsCard : Claim7 := { stood := { row := secFlowsRow, standIns := [], harness := (true, "1564b49c0a694d209d075bdb2fb476862b08696b0d1ed29d7b1c9a775900b381"), looks := true }, kinds := [], alts := [], laidByText := true, laidKinds := [.sentinel, .sentinel, .sentinel, .sentinel, .sentinel, .sentinel, .sentinel, .sentinel, .sentinel, .sentinel, .sentinel, .sentinel, .sentinel, .sentinel], laidTests := true, laidLooks := .later }
def SecFlowsCardSaid : Prop := Claim7.holds Tryd.pinned (.plain (OpenSpec.ofChange secFlowsSpec)) secFlowsCard

/-- THE TIED CARD OF 'alembiclaw9.DrawCentered'. -/
def drawCenteredCard : Claim7 := { stood := { row := drawCenteredRow, standIns := [], harness := (true, "1564b49c0a694d209d075bdb2fb476862b08696b0d1ed29d7b1c9a775900b381"), looks := true }, kinds := [], alts := [], laidByText := true, laidKinds := [.sentinel, .sentinel, .sentinel, .sentinel, .sentinel, .sentinel, .sentinel, .sentinel, .sentinel, .sentinel, .sentinel, .sentinel, .sentinel, .sentinel], laidTests := true, laidLooks := .later }
def DrawCenteredCardSaid : Prop := Claim7.holds Tryd.pinned (.plain (OpenSpec.ofChange drawCenteredSpec)) drawCenteredCard

/-- THE TIED CARD OF 'alembiclaw14.SecSays'. -/
def secSaysCard : Claim7 := { stood := { row := secSaysRow, standIns := [], harness := (true, "1564b49c0a694d209d075bdb2fb476862b08696b0d1ed29d7b1c9a775900b381"), looks := true }, kinds := [], alts := [], laidByText := true, laidKinds := [.sentinel, .sentinel, .sentinel, .sentinel, .sentinel, .sentinel, .sentinel, .sentinel, .sentinel, .sentinel, .sentinel, .sentinel, .sentinel, .sentinel], laidTests := true, laidLooks := .later }
def SecSaysCardSaid : Prop := Claim7.holds Tryd.pinned (.plain (OpenSpec.ofChange secSaysSpec)) secSaysCard

/-- THE TIED CARD OF 'alembiclaw14.SecRaised'. -/
def secRaisedCard : Claim7 := { stood := { row := secRaisedRow, standIns := [], harness := (true, "1564b49c0a694d209d075bdb2fb476862b08696b0d1ed29d7b1c9a775900b381"), looks := true }, kinds := [], alts := [], laidByText := true, laidKinds := [.sentinel, .sentinel, .sentinel, .sentinel, .sentinel, .sentinel], laidTests := true, laidLooks := .later }
def SecRaisedCardSaid : Prop := Claim7.holds Tryd.pinned (.plain (OpenSpec.ofChange secRaisedSpec)) secRaisedCard

/-- THE TIED CARD OF 'alembiclaw11.WireHints'. -/
def wireHintsCard : Claim7 := { stood := { row := wireHintsRow, standIns := [], harness := (true, "1564b49c0a694d209d075bdb2fb476862b08696b0d1ed29d7b1c9a775900b381"), looks := true }, kinds := [], alts := [], laidByText := true, laidKinds := [.sentinel, .sentinel, .sentinel, .sentinel, .sentinel, .sentinel, .sentinel, .sentinel, .sentinel, .sentinel, .sentinel, .sentinel, .sentinel, .sentinel], laidTests := true, laidLooks := .later }
def WireHintsCardSaid : Prop := Claim7.holds Tryd.pinned (.plain (OpenSpec.ofChange wireHintsSpec)) wireHintsCard

/-- THE TIED CARD OF 'alembiclaw9.DrawSmall'. -/
def drawSmallCard : Claim7 := { stood := { row := drawSmallRow, standIns := [], harness := (true, "1564b49c0a694d209d075bdb2fb476862b08696b0d1ed29d7b1c9a775900b381"), looks := true }, kinds := [], alts := [], laidByText := true, laidKinds := [.sentinel, .sentinel, .sentinel, .sentinel, .sentinel, .sentinel, .sentinel, .sentinel, .sentinel, .sentinel, .sentinel, .sentinel, .sentinel, .sentinel], laidTests := true, laidLooks := .later }
def DrawSmallCardSaid : Prop := Claim7.holds Tryd.pinned (.plain (OpenSpec.ofChange drawSmallSpec)) drawSmallCard

/-- THE TIED CARD OF 'alembiclaw11.WireSigs'. -/
def wireSigsCard : Claim7 := { stood := { row := wireSigsRow, standIns := [], harness := (true, "1564b49c0a694d209d075bdb2fb476862b08696b0d1ed29d7b1c9a775900b381"), looks := true }, kinds := [], alts := [], laidByText := true, laidKinds := [.sentinel, .sentinel, .sentinel, .sentinel, .sentinel, .sentinel, .sentinel, .sentinel, .sentinel, .sentinel, .sentinel, .sentinel, .sentinel, .sentinel], laidTests := true, laidLooks := .later }
def WireSigsCardSaid : Prop := Claim7.holds Tryd.pinned (.plain (OpenSpec.ofChange wireSigsSpec)) wireSigsCard

/-- THE TIED CARD OF 'alembiclaw9.DrawBounds'. -/
def drawBoundsCard : Claim7 := { stood := { row := drawBoundsRow, standIns := [], harness := (true, "1564b49c0a694d209d075bdb2fb476862b08696b0d1ed29d7b1c9a775900b381"), looks := true }, kinds := [], alts := [], laidByText := true, laidKinds := [.sentinel, .sentinel, .sentinel], laidTests := true, laidLooks := .later }
def DrawBoundsCardSaid : Prop := Claim7.holds Tryd.pinned (.plain (OpenSpec.ofChange drawBoundsSpec)) drawBoundsCard

/-- THE TIED CARD OF 'alembiclaw11.WireKeys'. -/
def wireKeysCard : Claim7 := { stood := { row := wireKeysRow, standIns := [], harness := (true, "1564b49c0a694d209d075bdb2fb476862b08696b0d1ed29d7b1c9a775900b381"), looks := true }, kinds := [], alts := [], laidByText := true, laidKinds := [.sentinel, .sentinel, .sentinel, .sentinel, .sentinel, .sentinel, .sentinel, .sentinel, .sentinel, .sentinel, .sentinel, .sentinel, .sentinel, .sentinel], laidTests := true, laidLooks := .later }
def WireKeysCardSaid : Prop := Claim7.holds Tryd.pinned (.plain (OpenSpec.ofChange wireKeysSpec)) wireKeysCard

/-- THE TIED CARD OF 'alembiclaw11.WireBack'. -/
def wireBackCard : Claim7 := { stood := { row := wireBackRow, standIns := [], harness := (true, "1564b49c0a694d209d075bdb2fb476862b08696b0d1ed29d7b1c9a775900b381"), looks := true }, kinds := [], alts := [], laidByText := true, laidKinds := [.sentinel, .sentinel, .sentinel, .sentinel], laidTests := true, laidLooks := .later }
def WireBackCardSaid : Prop := Claim7.holds Tryd.pinned (.plain (OpenSpec.ofChange wireBackSpec)) wireBackCard

/-- THE SECOND FORM's CARD OF 'alembiclaw9.DrawUniform'. -/
def drawUniformUptoCard : Claim7 := { stood := { row := drawUniformUptoRow, standIns := [], harness := (true, "1564b49c0a694d209d075bdb2fb476862b08696b0d1ed29d7b1c9a775900b381"), looks := true }, kinds := [], alts := [], laidByText := true, laidKinds := [.sentinel, .sentinel], laidTests := true, laidLooks := .later }
def DrawUniformUptoCardSaid : Prop := Claim7.holds Tryd.pinned (.plain (OpenSpec.upto drawUniformSpec)) drawUniformUptoCard

/-- THE SECOND FORM's CARD OF 'alembiclaw9.DrawRow'. -/
def drawRowUptoCard : Claim7 := { stood := { row := drawRowUptoRow, standIns := [], harness := (true, "1564b49c0a694d209d075bdb2fb476862b08696b0d1ed29d7b1c9a775900b381"), looks := true }, kinds := [], alts := [], laidByText := true, laidKinds := [.sentinel, .sentinel], laidTests := true, laidLooks := .later }
def DrawRowUptoCardSaid : Prop := Claim7.holds Tryd.pinned (.plain (OpenSpec.upto drawRowSpec)) drawRowUptoCard

/-- THE SECOND FORM's CARD OF 'alembiclaw14.SecFlows'. -/
def secFlowsUptoCard : Claim7 := { stood := { row := secFlowsUptoRow, standIns := [], harness := (true, "1564b49c0a694d209d075bdb2fb476862b08696b0d1ed29d7b1c9a775900b381"), looks := true }, kinds := [], alts := [], laidByText := true, laidKinds := [.sentinel, .sentinel, .sentinel, .sentinel, .sentinel, .sentinel, .sentinel, .sentinel, .sentinel, .sentinel, .sentinel, .sentinel, .sentinel, .sentinel], laidTests := true, laidLooks := .later }
def SecFlowsUptoCardSaid : Prop := Claim7.holds Tryd.pinned (.plain (OpenSpec.upto secFlowsSpec)) secFlowsUptoCard

/-- THE SECOND FORM's CARD OF 'alembiclaw9.DrawCentered'. -/
def drawCenteredUptoCard : Claim7 := { stood := { row := drawCenteredUptoRow, standIns := [], harness := (true, "1564b49c0a694d209d075bdb2fb476862b08696b0d1ed29d7b1c9a775900b381"), looks := true }, kinds := [], alts := [], laidByText := true, laidKinds := [.sentinel, .sentinel, .sentinel, .sentinel, .sentinel, .sentinel, .sentinel, .sentinel, .sentinel, .sentinel, .sentinel, .sentinel, .sentinel, .sentinel], laidTests := true, laidLooks := .later }
def DrawCenteredUptoCardSaid : Prop := Claim7.holds Tryd.pinned (.plain (OpenSpec.upto drawCenteredSpec)) drawCenteredUptoCard

/-- THE SECOND FORM's CARD OF 'alembiclaw14.SecSays'. -/
def secSaysUptoCard : Claim7 := { stood := { row := secSaysUptoRow, standIns := [], harness := (true, "1564b49c0a694d209d075bdb2fb476862b08696b0d1ed29d7b1c9a775900b381"), looks := true }, kinds := [], alts := [], laidByText := true, laidKinds := [.sentinel, .sentinel, .sentinel, .sentinel, .sentinel, .sentinel, .sentinel, .sentinel, .sentinel, .sentinel, .sentinel, .sentinel, .sentinel, .sentinel], laidTests := true, laidLooks := .later }
def SecSaysUptoCardSaid : Prop := Claim7.holds Tryd.pinned (.plain (OpenSpec.upto secSaysSpec)) secSaysUptoCard

/-- THE SECOND FORM's CARD OF 'alembiclaw14.SecRaised'. -/
def secRaisedUptoCard : Claim7 := { stood := { row := secRaisedUptoRow, standIns := [], harness := (true, "1564b49c0a694d209d075bdb2fb476862b08696b0d1ed29d7b1c9a775900b381"), looks := true }, kinds := [], alts := [], laidByText := true, laidKinds := [.sentinel, .sentinel, .sentinel, .sentinel, .sentinel, .sentinel], laidTests := true, laidLooks := .later }
def SecRaisedUptoCardSaid : Prop := Claim7.holds Tryd.pinned (.plain (OpenSpec.upto secRaisedSpec)) secRaisedUptoCard

/-- THE SECOND FORM's CARD OF 'alembiclaw11.WireHints'. -/
def wireHintsUptoCard : Claim7 := { stood := { row := wireHintsUptoRow, standIns := [], harness := (true, "1564b49c0a694d209d075bdb2fb476862b08696b0d1ed29d7b1c9a775900b381"), looks := true }, kinds := [], alts := [], laidByText := true, laidKinds := [.sentinel, .sentinel, .sentinel, .sentinel, .sentinel, .sentinel, .sentinel, .sentinel, .sentinel, .sentinel, .sentinel, .sentinel, .sentinel, .sentinel], laidTests := true, laidLooks := .later }
def WireHintsUptoCardSaid : Prop := Claim7.holds Tryd.pinned (.plain (OpenSpec.upto wireHintsSpec)) wireHintsUptoCard

/-- THE SECOND FORM's CARD OF 'alembiclaw9.DrawSmall'. -/
def drawSmallUptoCard : Claim7 := { stood := { row := drawSmallUptoRow, standIns := [], harness := (true, "1564b49c0a694d209d075bdb2fb476862b08696b0d1ed29d7b1c9a775900b381"), looks := true }, kinds := [], alts := [], laidByText := true, laidKinds := [.sentinel, .sentinel, .sentinel, .sentinel, .sentinel, .sentinel, .sentinel, .sentinel, .sentinel, .sentinel, .sentinel, .sentinel, .sentinel, .sentinel], laidTests := true, laidLooks := .later }
def DrawSmallUptoCardSaid : Prop := Claim7.holds Tryd.pinned (.plain (OpenSpec.upto drawSmallSpec)) drawSmallUptoCard

/-- THE SECOND FORM's CARD OF 'alembiclaw11.WireSigs'. -/
def wireSigsUptoCard : Claim7 := { stood := { row := wireSigsUptoRow, standIns := [], harness := (true, "1564b49c0a694d209d075bdb2fb476862b08696b0d1ed29d7b1c9a775900b381"), looks := true }, kinds := [], alts := [], laidByText := true, laidKinds := [.sentinel, .sentinel, .sentinel, .sentinel, .sentinel, .sentinel, .sentinel, .sentinel, .sentinel, .sentinel, .sentinel, .sentinel, .sentinel, .sentinel], laidTests := true, laidLooks := .later }
def WireSigsUptoCardSaid : Prop := Claim7.holds Tryd.pinned (.plain (OpenSpec.upto wireSigsSpec)) wireSigsUptoCard

/-- THE SECOND FORM's CARD OF 'alembiclaw9.DrawBounds'. -/
def drawBoundsUptoCard : Claim7 := { stood := { row := drawBoundsUptoRow, standIns := [], harness := (true, "1564b49c0a694d209d075bdb2fb476862b08696b0d1ed29d7b1c9a775900b381"), looks := true }, kinds := [], alts := [], laidByText := true, laidKinds := [.sentinel, .sentinel, .sentinel], laidTests := true, laidLooks := .later }
def DrawBoundsUptoCardSaid : Prop := Claim7.holds Tryd.pinned (.plain (OpenSpec.upto drawBoundsSpec)) drawBoundsUptoCard

/-- THE SECOND FORM's CARD OF 'alembiclaw11.WireKeys'. -/
def wireKeysUptoCard : Claim7 := { stood := { row := wireKeysUptoRow, standIns := [], harness := (true, "1564b49c0a694d209d075bdb2fb476862b08696b0d1ed29d7b1c9a775900b381"), looks := true }, kinds := [], alts := [], laidByText := true, laidKinds := [.sentinel, .sentinel, .sentinel, .sentinel, .sentinel, .sentinel, .sentinel, .sentinel, .sentinel, .sentinel, .sentinel, .sentinel, .sentinel, .sentinel], laidTests := true, laidLooks := .later }
def WireKeysUptoCardSaid : Prop := Claim7.holds Tryd.pinned (.plain (OpenSpec.upto wireKeysSpec)) wireKeysUptoCard

/-- THE SECOND FORM's CARD OF 'alembiclaw11.WireBack'. -/
def wireBackUptoCard : Claim7 := { stood := { row := wireBackUptoRow, standIns := [], harness := (true, "1564b49c0a694d209d075bdb2fb476862b08696b0d1ed29d7b1c9a775900b381"), looks := true }, kinds := [], alts := [], laidByText := true, laidKinds := [.sentinel, .sentinel, .sentinel, .sentinel], laidTests := true, laidLooks := .later }
def WireBackUptoCardSaid : Prop := Claim7.holds Tryd.pinned (.plain (OpenSpec.upto wireBackSpec)) wireBackUptoCard
end Rows
end Go.Proofs.YtngoidkconngmaaDoor
