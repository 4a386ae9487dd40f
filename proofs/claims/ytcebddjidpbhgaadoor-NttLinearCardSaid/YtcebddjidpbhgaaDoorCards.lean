/-
  DERIVED. GIVEN WITH THE SEED: THE CARDS: each row of YtcebddjidpbhgaaDoorRows.lean that lists a variable, with what it lists TIED to the program's text (the seventh form; the later family's looks); each row that meets fmt, with fmt's text TOLD by the authors' own Lean function (tested against real Go, not proved from fmt's source: count such statements apart). THE CARD IS WHAT COUNTS. Prove the row's statement (the work); the ties are given (YtcebddjidpbhgaaDoorTie.lean); close each card by the builder's one call (the guide's Derived/Test/ToyasCard.lean, 'card_holds'). Laid BY PROGRAM, IN A SANDBOX (cutbox-door.mjs). By AI agents, Wed Nov 11 2026. No macro, syntax, notation, axiom, sorry.
-/
import Derived.Test.YtcebddjidpbhgaaDoorRows
import GoSem.ClaimSeven
namespace Go.Proofs.YtcebddjidpbhgaaDoor
namespace Rows

/-- THE TIED CARD OF 'alembiclaw7.RoundRises'. -/
def roundRisesCard : Claim7 := { stood := { row := roundRisesRow, standIns := [], harness := (true, "332b28909d1d61b5933a7bb333573de6b5f2f8ff9c476bd05ab177de51c26d35"), looks := true }, kinds := [], alts := [], laidByText := true, laidKinds := [.sentinel, .sentinel], laidTests := true, laidLooks := .later }
def RoundRisesCardSaid : Prop := Claim7.holds Tryd.pinned (.plain (OpenSpec.ofChange roundRisesSpec)) roundRisesCard

/-- THE TIED CARD OF 'alembiclaw7.RoundSays'. -/
def roundSaysCard : Claim7 := { stood := { row := roundSaysRow, standIns := [], harness := (true, "332b28909d1d61b5933a7bb333573de6b5f2f8ff9c476bd05ab177de51c26d35"), looks := true }, kinds := [], alts := [], laidByText := true, laidKinds := [.sentinel, .sentinel, .sentinel, .sentinel, .sentinel, .sentinel, .sentinel, .sentinel, .sentinel, .sentinel, .sentinel, .sentinel, .sentinel, .sentinel], laidTests := true, laidLooks := .later }
def RoundSaysCardSaid : Prop := Claim7.holds Tryd.pinned (.plain (OpenSpec.ofChange roundSaysSpec)) roundSaysCard

/-- THE TIED CARD OF 'alembiclaw2.ConvSays'. -/
def convSaysCard : Claim7 := { stood := { row := convSaysRow, standIns := [], harness := (true, "332b28909d1d61b5933a7bb333573de6b5f2f8ff9c476bd05ab177de51c26d35"), looks := true }, kinds := [], alts := [], laidByText := true, laidKinds := [.sentinel, .sentinel, .sentinel, .sentinel, .sentinel, .sentinel, .sentinel, .sentinel, .sentinel, .sentinel, .sentinel, .sentinel, .sentinel, .sentinel], laidTests := true, laidLooks := .later }
def ConvSaysCardSaid : Prop := Claim7.holds Tryd.pinned (.plain (OpenSpec.ofChange convSaysSpec)) convSaysCard

/-- THE TIED CARD OF 'alembiclaw2.ConvMonos'. -/
def convMonosCard : Claim7 := { stood := { row := convMonosRow, standIns := [], harness := (true, "332b28909d1d61b5933a7bb333573de6b5f2f8ff9c476bd05ab177de51c26d35"), looks := true }, kinds := [], alts := [], laidByText := true, laidKinds := [.sentinel, .sentinel], laidTests := true, laidLooks := .later }
def ConvMonosCardSaid : Prop := Claim7.holds Tryd.pinned (.plain (OpenSpec.ofChange convMonosSpec)) convMonosCard

/-- THE TIED CARD OF 'alembiclaw3.NttOrder'. -/
def nttOrderCard : Claim7 := { stood := { row := nttOrderRow, standIns := [], harness := (true, "332b28909d1d61b5933a7bb333573de6b5f2f8ff9c476bd05ab177de51c26d35"), looks := true }, kinds := [], alts := [], laidByText := true, laidKinds := [.sentinel], laidTests := true, laidLooks := .later }
def NttOrderCardSaid : Prop := Claim7.holds Tryd.pinned (.plain (OpenSpec.ofChange nttOrderSpec)) nttOrderCard

/-- THE TIED CARD OF 'alembiclaw7.RoundLoss'. -/
def roundLossCard : Claim7 := { stood := { row := roundLossRow, standIns := [], harness := (true, "332b28909d1d61b5933a7bb333573de6b5f2f8ff9c476bd05ab177de51c26d35"), looks := true }, kinds := [], alts := [], laidByText := true, laidKinds := [.sentinel, .sentinel, .sentinel, .sentinel, .sentinel, .sentinel, .sentinel, .sentinel, .sentinel, .sentinel, .sentinel, .sentinel, .sentinel, .sentinel], laidTests := true, laidLooks := .later }
def RoundLossCardSaid : Prop := Claim7.holds Tryd.pinned (.plain (OpenSpec.ofChange roundLossSpec)) roundLossCard

/-- THE TIED CARD OF 'alembiclaw2.ConvRing'. -/
def convRingCard : Claim7 := { stood := { row := convRingRow, standIns := [], harness := (true, "332b28909d1d61b5933a7bb333573de6b5f2f8ff9c476bd05ab177de51c26d35"), looks := true }, kinds := [], alts := [], laidByText := true, laidKinds := [.sentinel, .sentinel], laidTests := true, laidLooks := .later }
def ConvRingCardSaid : Prop := Claim7.holds Tryd.pinned (.plain (OpenSpec.ofChange convRingSpec)) convRingCard

/-- THE TIED CARD OF 'alembiclaw7.RoundBack'. -/
def roundBackCard : Claim7 := { stood := { row := roundBackRow, standIns := [], harness := (true, "332b28909d1d61b5933a7bb333573de6b5f2f8ff9c476bd05ab177de51c26d35"), looks := true }, kinds := [], alts := [], laidByText := true, laidKinds := [.sentinel, .sentinel], laidTests := true, laidLooks := .later }
def RoundBackCardSaid : Prop := Claim7.holds Tryd.pinned (.plain (OpenSpec.ofChange roundBackSpec)) roundBackCard

/-- THE TIED CARD OF 'alembiclaw2.RingMod'. -/
def ringModCard : Claim7 := { stood := { row := ringModRow, standIns := [], harness := (true, "332b28909d1d61b5933a7bb333573de6b5f2f8ff9c476bd05ab177de51c26d35"), looks := true }, kinds := [], alts := [], laidByText := true, laidKinds := [.sentinel, .sentinel, .sentinel, .sentinel, .sentinel, .sentinel, .sentinel, .sentinel, .sentinel, .sentinel, .sentinel, .sentinel, .sentinel, .sentinel], laidTests := true, laidLooks := .later }
def RingModCardSaid : Prop := Claim7.holds Tryd.pinned (.plain (OpenSpec.ofChange ringModSpec)) ringModCard

/-- THE TIED CARD OF 'alembiclaw2.RingSays'. -/
def ringSaysCard : Claim7 := { stood := { row := ringSaysRow, standIns := [], harness := (true, "332b28909d1d61b5933a7bb333573de6b5f2f8ff9c476bd05ab177de51c26d35"), looks := true }, kinds := [], alts := [], laidByText := true, laidKinds := [.sentinel, .sentinel, .sentinel, .sentinel, .sentinel, .sentinel, .sentinel, .sentinel, .sentinel, .sentinel, .sentinel, .sentinel, .sentinel, .sentinel], laidTests := true, laidLooks := .later }
def RingSaysCardSaid : Prop := Claim7.holds Tryd.pinned (.plain (OpenSpec.ofChange ringSaysSpec)) ringSaysCard

/-- THE TIED CARD OF 'alembiclaw2.RingPoints'. -/
def ringPointsCard : Claim7 := { stood := { row := ringPointsRow, standIns := [], harness := (true, "332b28909d1d61b5933a7bb333573de6b5f2f8ff9c476bd05ab177de51c26d35"), looks := true }, kinds := [], alts := [], laidByText := true, laidKinds := [.sentinel, .sentinel], laidTests := true, laidLooks := .later }
def RingPointsCardSaid : Prop := Claim7.holds Tryd.pinned (.plain (OpenSpec.ofChange ringPointsSpec)) ringPointsCard

/-- THE TIED CARD OF 'alembiclaw3.NttLinear'. -/
def nttLinearCard : Claim7 := { stood := { row := nttLinearRow, standIns := [], harness := (true, "332b28909d1d61b5933a7bb333573de6b5f2f8ff9c476bd05ab177de51c26d35"), looks := true }, kinds := [], alts := [], laidByText := true, laidKinds := [.sentinel, .sentinel], laidTests := true, laidLooks := .later }
def NttLinearCardSaid : Prop := Claim7.holds Tryd.pinned (.plain (OpenSpec.ofChange nttLinearSpec)) nttLinearCard

/-- THE TIED CARD OF 'alembiclaw3.NttGreat'. -/
def nttGreatCard : Claim7 := { stood := { row := nttGreatRow, standIns := [], harness := (true, "332b28909d1d61b5933a7bb333573de6b5f2f8ff9c476bd05ab177de51c26d35"), looks := true }, kinds := [], alts := [], laidByText := true, laidKinds := [.sentinel, .sentinel], laidTests := true, laidLooks := .later }
def NttGreatCardSaid : Prop := Claim7.holds Tryd.pinned (.plain (OpenSpec.ofChange nttGreatSpec)) nttGreatCard

/-- THE TIED CARD OF 'alembiclaw3.NttSays'. -/
def nttSaysCard : Claim7 := { stood := { row := nttSaysRow, standIns := [], harness := (true, "332b28909d1d61b5933a7bb333573de6b5f2f8ff9c476bd05ab177de51c26d35"), looks := true }, kinds := [], alts := [], laidByText := true, laidKinds := [.sentinel, .sentinel, .sentinel, .sentinel, .sentinel, .sentinel, .sentinel, .sentinel, .sentinel, .sentinel, .sentinel, .sentinel, .sentinel, .sentinel], laidTests := true, laidLooks := .later }
def NttSaysCardSaid : Prop := Claim7.holds Tryd.pinned (.plain (OpenSpec.ofChange nttSaysSpec)) nttSaysCard

/-- THE TIED CARD OF 'alembiclaw3.NttBack'. -/
def nttBackCard : Claim7 := { stood := { row := nttBackRow, standIns := [], harness := (true, "332b28909d1d61b5933a7bb333573de6b5f2f8ff9c476bd05ab177de51c26d35"), looks := true }, kinds := [], alts := [], laidByText := true, laidKinds := [.sentinel, .sentinel], laidTests := true, laidLooks := .later }
def NttBackCardSaid : Prop := Claim7.holds Tryd.pinned (.plain (OpenSpec.ofChange nttBackSpec)) nttBackCard

/-- THE SECOND FORM's CARD OF 'alembiclaw7.RoundRises'. -/
def roundRisesUptoCard : Claim7 := { stood := { row := roundRisesUptoRow, standIns := [], harness := (true, "332b28909d1d61b5933a7bb333573de6b5f2f8ff9c476bd05ab177de51c26d35"), looks := true }, kinds := [], alts := [], laidByText := true, laidKinds := [.sentinel, .sentinel], laidTests := true, laidLooks := .later }
def RoundRisesUptoCardSaid : Prop := Claim7.holds Tryd.pinned (.plain (OpenSpec.upto roundRisesSpec)) roundRisesUptoCard

/-- THE SECOND FORM's CARD OF 'alembiclaw7.RoundSays'. -/
def roundSaysUptoCard : Claim7 := { stood := { row := roundSaysUptoRow, standIns := [], harness := (true, "332b28909d1d61b5933a7bb333573de6b5f2f8ff9c476bd05ab177de51c26d35"), looks := true }, kinds := [], alts := [], laidByText := true, laidKinds := [.sentinel, .sentinel, .sentinel, .sentinel, .sentinel, .sentinel, .sentinel, .sentinel, .sentinel, .sentinel, .sentinel, .sentinel, .sentinel, .sentinel], laidTests := true, laidLooks := .later }
def RoundSaysUptoCardSaid : Prop := Claim7.holds Tryd.pinned (.plain (OpenSpec.upto roundSaysSpec)) roundSaysUptoCard

/-- THE SECOND FORM's CARD OF 'alembiclaw2.ConvSays'. -/
def convSaysUptoCard : Claim7 := { stood := { row := convSaysUptoRow, standIns := [], harness := (true, "332b28909d1d61b5933a7bb333573de6b5f2f8ff9c476bd05ab177de51c26d35"), looks := true }, kinds := [], alts := [], laidByText := true, laidKinds := [.sentinel, .sentinel, .sentinel, .sentinel, .sentinel, .sentinel, .sentinel, .sentinel, .sentinel, .sentinel, .sentinel, .sentinel, .sentinel, .sentinel], laidTests := true, laidLooks := .later }
def ConvSaysUptoCardSaid : Prop := Claim7.holds Tryd.pinned (.plain (OpenSpec.upto convSaysSpec)) convSaysUptoCard

/-- THE SECOND FORM's CARD OF 'alembiclaw2.ConvMonos'. -/
def convMonosUptoCard : Claim7 := { stood := { row := convMonosUptoRow, standIns := [], harness := (true, "332b28909d1d61b5933a7bb333573de6b5f2f8ff9c476bd05ab177de51c26d35"), looks := true }, kinds := [], alts := [], laidByText := true, laidKinds := [.sentinel, .sentinel], laidTests := true, laidLooks := .later }
def ConvMonosUptoCardSaid : Prop := Claim7.holds Tryd.pinned (.plain (OpenSpec.upto convMonosSpec)) convMonosUptoCard

/-- THE SECOND FORM's CARD OF 'alembiclaw3.NttOrder'. -/
def nttOrderUptoCard : Claim7 := { stood := { row := nttOrderUptoRow, standIns := [], harness := (true, "332b28909d1d61b5933a7bb333573de6b5f2f8ff9c476bd05ab177de51c26d35"), looks := true }, kinds := [], alts := [], laidByText := true, laidKinds := [.sentinel], laidTests := true, laidLooks := .later }
def NttOrderUptoCardSaid : Prop := Claim7.holds Tryd.pinned (.plain (OpenSpec.upto nttOrderSpec)) nttOrderUptoCard

/-- THE SECOND FORM's CARD OF 'alembiclaw7.RoundLoss'. -/
def roundLossUptoCard : Claim7 := { stood := { row := roundLossUptoRow, standIns := [], harness := (true, "332b28909d1d61b5933a7bb333573de6b5f2f8ff9c476bd05ab177de51c26d35"), looks := true }, kinds := [], alts := [], laidByText := true, laidKinds := [.sentinel, .sentinel, .sentinel, .sentinel, .sentinel, .sentinel, .sentinel, .sentinel, .sentinel, .sentinel, .sentinel, .sentinel, .sentinel, .sentinel], laidTests := true, laidLooks := .later }
def RoundLossUptoCardSaid : Prop := Claim7.holds Tryd.pinned (.plain (OpenSpec.upto roundLossSpec)) roundLossUptoCard

/-- THE SECOND FORM's CARD OF 'alembiclaw2.ConvRing'. -/
def convRingUptoCard : Claim7 := { stood := { row := convRingUptoRow, standIns := [], harness := (true, "332b28909d1d61b5933a7bb333573de6b5f2f8ff9c476bd05ab177de51c26d35"), looks := true }, kinds := [], alts := [], laidByText := true, laidKinds := [.sentinel, .sentinel], laidTests := true, laidLooks := .later }
def ConvRingUptoCardSaid : Prop := Claim7.holds Tryd.pinned (.plain (OpenSpec.upto convRingSpec)) convRingUptoCard

/-- THE SECOND FORM's CARD OF 'alembiclaw7.RoundBack'. -/
def roundBackUptoCard : Claim7 := { stood := { row := roundBackUptoRow, standIns := [], harness := (true, "332b28909d1d61b5933a7bb333573de6b5f2f8ff9c476bd05ab177de51c26d35"), looks := true }, kinds := [], alts := [], laidByText := true, laidKinds := [.sentinel, .sentinel], laidTests := true, laidLooks := .later }
def RoundBackUptoCardSaid : Prop := Claim7.holds Tryd.pinned (.plain (OpenSpec.upto roundBackSpec)) roundBackUptoCard

/-- THE SECOND FORM's CARD OF 'alembiclaw2.RingMod'. -/
def ringModUptoCard : Claim7 := { stood := { row := ringModUptoRow, standIns := [], harness := (true, "332b28909d1d61b5933a7bb333573de6b5f2f8ff9c476bd05ab177de51c26d35"), looks := true }, kinds := [], alts := [], laidByText := true, laidKinds := [.sentinel, .sentinel, .sentinel, .sentinel, .sentinel, .sentinel, .sentinel, .sentinel, .sentinel, .sentinel, .sentinel, .sentinel, .sentinel, .sentinel], laidTests := true, laidLooks := .later }
def RingModUptoCardSaid : Prop := Claim7.holds Tryd.pinned (.plain (OpenSpec.upto ringModSpec)) ringModUptoCard

/-- THE SECOND FORM's CARD OF 'alembiclaw2.RingSays'. -/
def ringSaysUptoCard : Claim7 := { stood := { row := ringSaysUptoRow, standIns := [], harness := (true, "332b28909d1d61b5933a7bb333573de6b5f2f8ff9c476bd05ab177de51c26d35"), looks := true }, kinds := [], alts := [], laidByText := true, laidKinds := [.sentinel, .sentinel, .sentinel, .sentinel, .sentinel, .sentinel, .sentinel, .sentinel, .sentinel, .sentinel, .sentinel, .sentinel, .sentinel, .sentinel], laidTests := true, laidLooks := .later }
def RingSaysUptoCardSaid : Prop := Claim7.holds Tryd.pinned (.plain (OpenSpec.upto ringSaysSpec)) ringSaysUptoCard

/-- THE SECOND FORM's CARD OF 'alembiclaw2.RingPoints'. -/
def ringPointsUptoCard : Claim7 := { stood := { row := ringPointsUptoRow, standIns := [], harness := (true, "332b28909d1d61b5933a7bb333573de6b5f2f8ff9c476bd05ab177de51c26d35"), looks := true }, kinds := [], alts := [], laidByText := true, laidKinds := [.sentinel, .sentinel], laidTests := true, laidLooks := .later }
def RingPointsUptoCardSaid : Prop := Claim7.holds Tryd.pinned (.plain (OpenSpec.upto ringPointsSpec)) ringPointsUptoCard

/-- THE SECOND FORM's CARD OF 'alembiclaw3.NttLinear'. -/
def nttLinearUptoCard : Claim7 := { stood := { row := nttLinearUptoRow, standIns := [], harness := (true, "332b28909d1d61b5933a7bb333573de6b5f2f8ff9c476bd05ab177de51c26d35"), looks := true }, kinds := [], alts := [], laidByText := true, laidKinds := [.sentinel, .sentinel], laidTests := true, laidLooks := .later }
def NttLinearUptoCardSaid : Prop := Claim7.holds Tryd.pinned (.plain (OpenSpec.upto nttLinearSpec)) nttLinearUptoCard

/-- THE SECOND FORM's CARD OF 'alembiclaw3.NttGreat'. -/
def nttGreatUptoCard : Claim7 := { stood := { row := nttGreatUptoRow, standIns := [], harness := (true, "332b28909d1d61b5933a7bb333573de6b5f2f8ff9c476bd05ab177de51c26d35"), looks := true }, kinds := [], alts := [], laidByText := true, laidKinds := [.sentinel, .sentinel], laidTests := true, laidLooks := .later }
def NttGreatUptoCardSaid : Prop := Claim7.holds Tryd.pinned (.plain (OpenSpec.upto nttGreatSpec)) nttGreatUptoCard

/-- THE SECOND FORM's CARD OF 'alembiclaw3.NttSays'. -/
def nttSaysUptoCard : Claim7 := { stood := { row := nttSaysUptoRow, standIns := [], harness := (true, "332b28909d1d61b5933a7bb333573de6b5f2f8ff9c476bd05ab177de51c26d35"), looks := true }, kinds := [], alts := [], laidByText := true, laidKinds := [.sentinel, .sentinel, .sentinel, .sentinel, .sentinel, .sentinel, .sentinel, .sentinel, .sentinel, .sentinel, .sentinel, .sentinel, .sentinel, .sentinel], laidTests := true, laidLooks := .later }
def NttSaysUptoCardSaid : Prop := Claim7.holds Tryd.pinned (.plain (OpenSpec.upto nttSaysSpec)) nttSaysUptoCard

/-- THE SECOND FORM's CARD OF 'alembiclaw3.NttBack'. -/
def nttBackUptoCard : Claim7 := { stood := { row := nttBackUptoRow, standIns := [], harness := (true, "332b28909d1d61b5933a7bb333573de6b5f2f8ff9c476bd05ab177de51c26d35"), looks := true }, kinds := [], alts := [], laidByText := true, laidKinds := [.sentinel, .sentinel], laidTests := true, laidLooks := .later }
def NttBackUptoCardSaid : Prop := Claim7.holds Tryd.pinned (.plain (OpenSpec.upto nttBackSpec)) nttBackUptoCard
end Rows
end Go.Proofs.YtcebddjidpbhgaaDoor
