/-
  NARROWER THAN 'FOR EVERY INPUT', by the rows' own cells (each row's printed sentence says how): RoundRises: laid · RoundSays: laid · ConvSays: laid · ConvMonos: laid · NttOrder: laid · RoundLoss: laid · ConvRing: laid · RoundBack: laid · RingMod: laid · RingSays: laid · RingPoints: laid · NttLinear: laid · NttGreat: laid · NttSays: laid · NttBack: laid.
  DERIVED. THE GIVEN ROWS OF THIS SEAT. 15 by the template 'for every input the law returns true; each argument reads behind the call as it read before'; 0 by the template 'total and deterministic' (their statements: YtcebddjidpbhgaaDoorTotals.lean).
  GIVEN WITH THE SEED: the statements are not yours to turn. If you find one false, say at which input.
  Laid BY PROGRAM, IN A SANDBOX (cutbox-rows.mjs): the forced cells as the released guide's own fill.sh prints them over the translation 547b7771c0656b0f… (all of the seat's roots in one cut). By AI agents, Wed Nov 11 2026. No macro, syntax, notation, axiom, sorry.
-/
import Derived.Test.YtcebddjidpbhgaaDoorChecked
import GoSem.Claim
import GoSem.ClaimJoined
import GoSem.ClaimMapViews
import Derived.JoinedTies
import Derived.KernelRfl
namespace Go.Proofs.YtcebddjidpbhgaaDoor
/- THE CELL 'sum', in the pinned program and in every row, IS THE sha256 OF THE DUMP (.gsa) THAT YtcebddjidpbhgaaDoorProg.lean LOADS. Nothing in Lean hashes anything: it is a label: what it is worth is what the hold of that sum in a sandbox is worth. -/
noncomputable def Tryd.pinned : Pinned := { name := "ytcebddjidpbhgaadoor", sum := "547b7771c0656b0f625cdd76f2b6a19c5c72a1953d9bfcbdacc6c5b2451477c2", checked := Tryd.checked }
namespace Rows
def none {H : Type} : Left H := { results := [], args := [] }

/- WHAT THE LISTED PACKAGE-LEVEL VARIABLES READ AS WHEN THE CALL BEGINS. Each datum BY PROGRAM (the guide's laid-datum.mjs) off the statement by which the dump's own 'gosem.cut.vars' lays the variable. In a bare row this is a premise. The card (YtcebddjidpbhgaaDoorCards.lean) ties it to the program's text. -/
def laid_alembic_api_ErrRange {H : Type} : DataW H := .iface "*errors.errorString" (.ptr (.agg [.lit (.string [97, 32, 110, 117, 109, 98, 101, 114, 32, 111, 117, 116, 32, 111, 102, 32, 105, 116, 115, 32, 114, 97, 110, 103, 101])]))
def laid_alembic_api_ErrLength {H : Type} : DataW H := .iface "*errors.errorString" (.ptr (.agg [.lit (.string [110, 111, 116, 32, 97, 115, 32, 108, 111, 110, 103, 32, 97, 115, 32, 105, 116, 32, 104, 97, 115, 32, 116, 111, 32, 98, 101])]))
def laid_alembic_api_ErrMany {H : Type} : DataW H := .iface "*errors.errorString" (.ptr (.agg [.lit (.string [116, 111, 111, 32, 109, 97, 110, 121])]))
def laid_alembic_api_ErrShape {H : Type} : DataW H := .iface "*errors.errorString" (.ptr (.agg [.lit (.string [110, 111, 116, 32, 97, 115, 32, 105, 116, 32, 104, 97, 115, 32, 116, 111, 32, 98, 101])]))
def laid_alembic_api_ErrNone {H : Type} : DataW H := .iface "*errors.errorString" (.ptr (.agg [.lit (.string [116, 104, 101, 114, 101, 32, 105, 115, 32, 110, 111, 110, 101])]))
def laid_alembic_api_ErrOp {H : Type} : DataW H := .iface "*errors.errorString" (.ptr (.agg [.lit (.string [110, 111, 32, 115, 117, 99, 104, 32, 116, 104, 105, 110, 103, 32, 116, 111, 32, 100, 111])]))
def laid_alembic_api_ErrVar {H : Type} : DataW H := .iface "*errors.errorString" (.ptr (.agg [.lit (.string [110, 111, 32, 115, 117, 99, 104, 32, 118, 97, 114, 105, 97, 98, 108, 101])]))
def laid_alembic_api_ErrSecret {H : Type} : DataW H := .iface "*errors.errorString" (.ptr (.agg [.lit (.string [97, 32, 115, 101, 99, 114, 101, 116, 32, 119, 104, 101, 114, 101, 32, 105, 116, 32, 109, 97, 121, 32, 110, 111, 116, 32, 98, 101])]))
def laid_alembic_api_ErrLabel {H : Type} : DataW H := .iface "*errors.errorString" (.ptr (.agg [.lit (.string [110, 111, 32, 115, 117, 99, 104, 32, 112, 108, 97, 99, 101])]))
def laid_alembic_api_ErrFar {H : Type} : DataW H := .iface "*errors.errorString" (.ptr (.agg [.lit (.string [116, 111, 111, 32, 102, 97, 114])]))
def laid_alembic_api_ErrFuel {H : Type} : DataW H := .iface "*errors.errorString" (.ptr (.agg [.lit (.string [105, 116, 32, 116, 97, 107, 101, 115, 32, 116, 111, 111, 32, 108, 111, 110, 103])]))
def laid_alembic_api_ErrFault {H : Type} : DataW H := .iface "*errors.errorString" (.ptr (.agg [.lit (.string [119, 104, 101, 114, 101, 32, 116, 104, 101, 114, 101, 32, 105, 115, 32, 110, 111, 116, 104, 105, 110, 103])]))
def laid_alembic_api_ErrWord {H : Type} : DataW H := .iface "*errors.errorString" (.ptr (.agg [.lit (.string [110, 111, 32, 115, 117, 99, 104, 32, 119, 111, 114, 100])]))
def laid_alembic_api_ErrNumber {H : Type} : DataW H := .iface "*errors.errorString" (.ptr (.agg [.lit (.string [110, 111, 116, 32, 97, 32, 110, 117, 109, 98, 101, 114])]))

/-- 'alembiclaw7.RoundRises': WHATEVER THE INPUT: true; the input reads as it did. -/
def roundRisesSpec : ChangeSpec := { name := "roundRises", fn := fun _ => fun
  | [d1, d2] => { results := [.lit (.bool true)], args := [d1, d2] }
  | _ => none }
def roundRisesRow : OpenClaim := { program := "ytcebddjidpbhgaadoor", sum := "547b7771c0656b0f625cdd76f2b6a19c5c72a1953d9bfcbdacc6c5b2451477c2", func := "alembic/alembiclaw7.RoundRises", spec := "roundRises", named := ["alembic/api.ErrRange", "alembic/api.ErrLength"], apart := false, laid := [("alembic/api.ErrRange", laid_alembic_api_ErrRange), ("alembic/api.ErrLength", laid_alembic_api_ErrLength)] }
def RoundRisesSaid : Prop := roundRisesRow.holds Tryd.pinned (OpenSpec.ofChange roundRisesSpec)

/-- ITS FALSE NEIGHBOUR: 'it returns false'. Refute it at one input. -/
def roundRisesWrong : ChangeSpec := { name := "roundRises", fn := fun _ => fun
  | [d1, d2] => { results := [.lit (.bool false)], args := [d1, d2] }
  | _ => none }
def RoundRisesWrongFalsely : Prop := roundRisesRow.holds Tryd.pinned (OpenSpec.ofChange roundRisesWrong)

/-- 'alembiclaw7.RoundSays': WHATEVER THE INPUT: true; the input reads as it did. -/
def roundSaysSpec : ChangeSpec := { name := "roundSays", fn := fun _ => fun
  | [d1, d2, d3] => { results := [.lit (.bool true)], args := [d1, d2, d3] }
  | _ => none }
def roundSaysRow : OpenClaim := { program := "ytcebddjidpbhgaadoor", sum := "547b7771c0656b0f625cdd76f2b6a19c5c72a1953d9bfcbdacc6c5b2451477c2", func := "alembic/alembiclaw7.RoundSays", spec := "roundSays", named := ["alembic/api.ErrRange", "alembic/api.ErrLength", "alembic/api.ErrMany", "alembic/api.ErrShape", "alembic/api.ErrNone", "alembic/api.ErrOp", "alembic/api.ErrVar", "alembic/api.ErrSecret", "alembic/api.ErrLabel", "alembic/api.ErrFar", "alembic/api.ErrFuel", "alembic/api.ErrFault", "alembic/api.ErrWord", "alembic/api.ErrNumber"], apart := false, laid := [("alembic/api.ErrRange", laid_alembic_api_ErrRange), ("alembic/api.ErrLength", laid_alembic_api_ErrLength), ("alembic/api.ErrMany", laid_alembic_api_ErrMany), ("alembic/api.ErrShape", laid_alembic_api_ErrShape), ("alembic/api.ErrNone", laid_alembic_api_ErrNone), ("alembic/api.ErrOp", laid_alembic_api_ErrOp), ("alembic/api.ErrVar", laid_alembic_api_ErrVar), ("alembic/api.ErrSecret", laid_alembic_api_ErrSecret), ("alembic/api.ErrLabel", laid_alembic_api_ErrLabel), ("alembic/api.ErrFar", laid_alembic_api_ErrFar), ("alembic/api.ErrFuel", laid_alembic_api_ErrFuel), ("alembic/api.ErrFault", laid_alembic_api_ErrFault), ("alembic/api.ErrWord", laid_alembic_api_ErrWord), ("alembic/api.ErrNumber", laid_alembic_api_ErrNumber)] }
def RoundSaysSaid : Prop := roundSaysRow.holds Tryd.pinned (OpenSpec.ofChange roundSaysSpec)

/-- ITS FALSE NEIGHBOUR: 'it returns false'. Refute it at one input. -/
def roundSaysWrong : ChangeSpec := { name := "roundSays", fn := fun _ => fun
  | [d1, d2, d3] => { results := [.lit (.bool false)], args := [d1, d2, d3] }
  | _ => none }
def RoundSaysWrongFalsely : Prop := roundSaysRow.holds Tryd.pinned (OpenSpec.ofChange roundSaysWrong)

/-- 'alembiclaw2.ConvSays': WHATEVER THE INPUT: true; the input reads as it did. -/
def convSaysSpec : ChangeSpec := { name := "convSays", fn := fun _ => fun
  | [d1, d2, d3] => { results := [.lit (.bool true)], args := [d1, d2, d3] }
  | _ => none }
def convSaysRow : OpenClaim := { program := "ytcebddjidpbhgaadoor", sum := "547b7771c0656b0f625cdd76f2b6a19c5c72a1953d9bfcbdacc6c5b2451477c2", func := "alembic/alembiclaw2.ConvSays", spec := "convSays", named := ["alembic/api.ErrLength", "alembic/api.ErrRange", "alembic/api.ErrMany", "alembic/api.ErrShape", "alembic/api.ErrNone", "alembic/api.ErrOp", "alembic/api.ErrVar", "alembic/api.ErrSecret", "alembic/api.ErrLabel", "alembic/api.ErrFar", "alembic/api.ErrFuel", "alembic/api.ErrFault", "alembic/api.ErrWord", "alembic/api.ErrNumber"], apart := false, laid := [("alembic/api.ErrRange", laid_alembic_api_ErrRange), ("alembic/api.ErrLength", laid_alembic_api_ErrLength), ("alembic/api.ErrMany", laid_alembic_api_ErrMany), ("alembic/api.ErrShape", laid_alembic_api_ErrShape), ("alembic/api.ErrNone", laid_alembic_api_ErrNone), ("alembic/api.ErrOp", laid_alembic_api_ErrOp), ("alembic/api.ErrVar", laid_alembic_api_ErrVar), ("alembic/api.ErrSecret", laid_alembic_api_ErrSecret), ("alembic/api.ErrLabel", laid_alembic_api_ErrLabel), ("alembic/api.ErrFar", laid_alembic_api_ErrFar), ("alembic/api.ErrFuel", laid_alembic_api_ErrFuel), ("alembic/api.ErrFault", laid_alembic_api_ErrFault), ("alembic/api.ErrWord", laid_alembic_api_ErrWord), ("alembic/api.ErrNumber", laid_alembic_api_ErrNumber)] }
def ConvSaysSaid : Prop := convSaysRow.holds Tryd.pinned (OpenSpec.ofChange convSaysSpec)

/-- ITS FALSE NEIGHBOUR: 'it returns false'. Refute it at one input. -/
def convSaysWrong : ChangeSpec := { name := "convSays", fn := fun _ => fun
  | [d1, d2, d3] => { results := [.lit (.bool false)], args := [d1, d2, d3] }
  | _ => none }
def ConvSaysWrongFalsely : Prop := convSaysRow.holds Tryd.pinned (OpenSpec.ofChange convSaysWrong)

/-- 'alembiclaw2.ConvMonos': WHATEVER THE INPUT: true; the input reads as it did. -/
def convMonosSpec : ChangeSpec := { name := "convMonos", fn := fun _ => fun
  | [d1, d2, d3, d4] => { results := [.lit (.bool true)], args := [d1, d2, d3, d4] }
  | _ => none }
def convMonosRow : OpenClaim := { program := "ytcebddjidpbhgaadoor", sum := "547b7771c0656b0f625cdd76f2b6a19c5c72a1953d9bfcbdacc6c5b2451477c2", func := "alembic/alembiclaw2.ConvMonos", spec := "convMonos", named := ["alembic/api.ErrLength", "alembic/api.ErrRange"], apart := false, laid := [("alembic/api.ErrRange", laid_alembic_api_ErrRange), ("alembic/api.ErrLength", laid_alembic_api_ErrLength)] }
def ConvMonosSaid : Prop := convMonosRow.holds Tryd.pinned (OpenSpec.ofChange convMonosSpec)

/-- ITS FALSE NEIGHBOUR: 'it returns false'. Refute it at one input. -/
def convMonosWrong : ChangeSpec := { name := "convMonos", fn := fun _ => fun
  | [d1, d2, d3, d4] => { results := [.lit (.bool false)], args := [d1, d2, d3, d4] }
  | _ => none }
def ConvMonosWrongFalsely : Prop := convMonosRow.holds Tryd.pinned (OpenSpec.ofChange convMonosWrong)

/-- 'alembiclaw3.NttOrder': WHATEVER THE INPUT: true; the input reads as it did. -/
def nttOrderSpec : ChangeSpec := { name := "nttOrder", fn := fun _ => fun
  | [d1, d2, d3] => { results := [.lit (.bool true)], args := [d1, d2, d3] }
  | _ => none }
def nttOrderRow : OpenClaim := { program := "ytcebddjidpbhgaadoor", sum := "547b7771c0656b0f625cdd76f2b6a19c5c72a1953d9bfcbdacc6c5b2451477c2", func := "alembic/alembiclaw3.NttOrder", spec := "nttOrder", named := ["alembic/api.ErrRange"], apart := false, laid := [("alembic/api.ErrRange", laid_alembic_api_ErrRange)] }
def NttOrderSaid : Prop := nttOrderRow.holds Tryd.pinned (OpenSpec.ofChange nttOrderSpec)

/-- ITS FALSE NEIGHBOUR: 'it returns false'. Refute it at one input. -/
def nttOrderWrong : ChangeSpec := { name := "nttOrder", fn := fun _ => fun
  | [d1, d2, d3] => { results := [.lit (.bool false)], args := [d1, d2, d3] }
  | _ => none }
def NttOrderWrongFalsely : Prop := nttOrderRow.holds Tryd.pinned (OpenSpec.ofChange nttOrderWrong)

/-- 'alembiclaw7.RoundLoss': WHATEVER THE INPUT: true; the input reads as it did. -/
def roundLossSpec : ChangeSpec := { name := "roundLoss", fn := fun _ => fun
  | [d1, d2] => { results := [.lit (.bool true)], args := [d1, d2] }
  | _ => none }
def roundLossRow : OpenClaim := { program := "ytcebddjidpbhgaadoor", sum := "547b7771c0656b0f625cdd76f2b6a19c5c72a1953d9bfcbdacc6c5b2451477c2", func := "alembic/alembiclaw7.RoundLoss", spec := "roundLoss", named := ["alembic/api.ErrRange", "alembic/api.ErrLength", "alembic/api.ErrMany", "alembic/api.ErrShape", "alembic/api.ErrNone", "alembic/api.ErrOp", "alembic/api.ErrVar", "alembic/api.ErrSecret", "alembic/api.ErrLabel", "alembic/api.ErrFar", "alembic/api.ErrFuel", "alembic/api.ErrFault", "alembic/api.ErrWord", "alembic/api.ErrNumber"], apart := false, laid := [("alembic/api.ErrRange", laid_alembic_api_ErrRange), ("alembic/api.ErrLength", laid_alembic_api_ErrLength), ("alembic/api.ErrMany", laid_alembic_api_ErrMany), ("alembic/api.ErrShape", laid_alembic_api_ErrShape), ("alembic/api.ErrNone", laid_alembic_api_ErrNone), ("alembic/api.ErrOp", laid_alembic_api_ErrOp), ("alembic/api.ErrVar", laid_alembic_api_ErrVar), ("alembic/api.ErrSecret", laid_alembic_api_ErrSecret), ("alembic/api.ErrLabel", laid_alembic_api_ErrLabel), ("alembic/api.ErrFar", laid_alembic_api_ErrFar), ("alembic/api.ErrFuel", laid_alembic_api_ErrFuel), ("alembic/api.ErrFault", laid_alembic_api_ErrFault), ("alembic/api.ErrWord", laid_alembic_api_ErrWord), ("alembic/api.ErrNumber", laid_alembic_api_ErrNumber)] }
def RoundLossSaid : Prop := roundLossRow.holds Tryd.pinned (OpenSpec.ofChange roundLossSpec)

/-- ITS FALSE NEIGHBOUR: 'it returns false'. Refute it at one input. -/
def roundLossWrong : ChangeSpec := { name := "roundLoss", fn := fun _ => fun
  | [d1, d2] => { results := [.lit (.bool false)], args := [d1, d2] }
  | _ => none }
def RoundLossWrongFalsely : Prop := roundLossRow.holds Tryd.pinned (OpenSpec.ofChange roundLossWrong)

/-- 'alembiclaw2.ConvRing': WHATEVER THE INPUT: true; the input reads as it did. -/
def convRingSpec : ChangeSpec := { name := "convRing", fn := fun _ => fun
  | [d1, d2, d3, d4, d5] => { results := [.lit (.bool true)], args := [d1, d2, d3, d4, d5] }
  | _ => none }
def convRingRow : OpenClaim := { program := "ytcebddjidpbhgaadoor", sum := "547b7771c0656b0f625cdd76f2b6a19c5c72a1953d9bfcbdacc6c5b2451477c2", func := "alembic/alembiclaw2.ConvRing", spec := "convRing", unfollowed := true, recurses := true, named := ["alembic/api.ErrLength", "alembic/api.ErrRange"], apart := false, laid := [("alembic/api.ErrRange", laid_alembic_api_ErrRange), ("alembic/api.ErrLength", laid_alembic_api_ErrLength)] }
def ConvRingSaid : Prop := convRingRow.holds Tryd.pinned (OpenSpec.ofChange convRingSpec)

/-- ITS FALSE NEIGHBOUR: 'it returns false'. Refute it at one input. -/
def convRingWrong : ChangeSpec := { name := "convRing", fn := fun _ => fun
  | [d1, d2, d3, d4, d5] => { results := [.lit (.bool false)], args := [d1, d2, d3, d4, d5] }
  | _ => none }
def ConvRingWrongFalsely : Prop := convRingRow.holds Tryd.pinned (OpenSpec.ofChange convRingWrong)

/-- 'alembiclaw7.RoundBack': WHATEVER THE INPUT: true; the input reads as it did. -/
def roundBackSpec : ChangeSpec := { name := "roundBack", fn := fun _ => fun
  | [d1, d2, d3, d4] => { results := [.lit (.bool true)], args := [d1, d2, d3, d4] }
  | _ => none }
def roundBackRow : OpenClaim := { program := "ytcebddjidpbhgaadoor", sum := "547b7771c0656b0f625cdd76f2b6a19c5c72a1953d9bfcbdacc6c5b2451477c2", func := "alembic/alembiclaw7.RoundBack", spec := "roundBack", named := ["alembic/api.ErrRange", "alembic/api.ErrLength"], apart := false, laid := [("alembic/api.ErrRange", laid_alembic_api_ErrRange), ("alembic/api.ErrLength", laid_alembic_api_ErrLength)] }
def RoundBackSaid : Prop := roundBackRow.holds Tryd.pinned (OpenSpec.ofChange roundBackSpec)

/-- ITS FALSE NEIGHBOUR: 'it returns false'. Refute it at one input. -/
def roundBackWrong : ChangeSpec := { name := "roundBack", fn := fun _ => fun
  | [d1, d2, d3, d4] => { results := [.lit (.bool false)], args := [d1, d2, d3, d4] }
  | _ => none }
def RoundBackWrongFalsely : Prop := roundBackRow.holds Tryd.pinned (OpenSpec.ofChange roundBackWrong)

/-- 'alembiclaw2.RingMod': WHATEVER THE INPUT: true; the input reads as it did. -/
def ringModSpec : ChangeSpec := { name := "ringMod", fn := fun _ => fun
  | [d1, d2, d3, d4, d5] => { results := [.lit (.bool true)], args := [d1, d2, d3, d4, d5] }
  | _ => none }
def ringModRow : OpenClaim := { program := "ytcebddjidpbhgaadoor", sum := "547b7771c0656b0f625cdd76f2b6a19c5c72a1953d9bfcbdacc6c5b2451477c2", func := "alembic/alembiclaw2.RingMod", spec := "ringMod", unfollowed := true, recurses := true, named := ["alembic/api.ErrLength", "alembic/api.ErrRange", "alembic/api.ErrMany", "alembic/api.ErrShape", "alembic/api.ErrNone", "alembic/api.ErrOp", "alembic/api.ErrVar", "alembic/api.ErrSecret", "alembic/api.ErrLabel", "alembic/api.ErrFar", "alembic/api.ErrFuel", "alembic/api.ErrFault", "alembic/api.ErrWord", "alembic/api.ErrNumber"], apart := false, laid := [("alembic/api.ErrRange", laid_alembic_api_ErrRange), ("alembic/api.ErrLength", laid_alembic_api_ErrLength), ("alembic/api.ErrMany", laid_alembic_api_ErrMany), ("alembic/api.ErrShape", laid_alembic_api_ErrShape), ("alembic/api.ErrNone", laid_alembic_api_ErrNone), ("alembic/api.ErrOp", laid_alembic_api_ErrOp), ("alembic/api.ErrVar", laid_alembic_api_ErrVar), ("alembic/api.ErrSecret", laid_alembic_api_ErrSecret), ("alembic/api.ErrLabel", laid_alembic_api_ErrLabel), ("alembic/api.ErrFar", laid_alembic_api_ErrFar), ("alembic/api.ErrFuel", laid_alembic_api_ErrFuel), ("alembic/api.ErrFault", laid_alembic_api_ErrFault), ("alembic/api.ErrWord", laid_alembic_api_ErrWord), ("alembic/api.ErrNumber", laid_alembic_api_ErrNumber)] }
def RingModSaid : Prop := ringModRow.holds Tryd.pinned (OpenSpec.ofChange ringModSpec)

/-- ITS FALSE NEIGHBOUR: 'it returns false'. Refute it at one input. -/
def ringModWrong : ChangeSpec := { name := "ringMod", fn := fun _ => fun
  | [d1, d2, d3, d4, d5] => { results := [.lit (.bool false)], args := [d1, d2, d3, d4, d5] }
  | _ => none }
def RingModWrongFalsely : Prop := ringModRow.holds Tryd.pinned (OpenSpec.ofChange ringModWrong)

/-- 'alembiclaw2.RingSays': WHATEVER THE INPUT: true; the input reads as it did. -/
def ringSaysSpec : ChangeSpec := { name := "ringSays", fn := fun _ => fun
  | [d1, d2, d3, d4] => { results := [.lit (.bool true)], args := [d1, d2, d3, d4] }
  | _ => none }
def ringSaysRow : OpenClaim := { program := "ytcebddjidpbhgaadoor", sum := "547b7771c0656b0f625cdd76f2b6a19c5c72a1953d9bfcbdacc6c5b2451477c2", func := "alembic/alembiclaw2.RingSays", spec := "ringSays", unfollowed := true, recurses := true, named := ["alembic/api.ErrLength", "alembic/api.ErrRange", "alembic/api.ErrMany", "alembic/api.ErrShape", "alembic/api.ErrNone", "alembic/api.ErrOp", "alembic/api.ErrVar", "alembic/api.ErrSecret", "alembic/api.ErrLabel", "alembic/api.ErrFar", "alembic/api.ErrFuel", "alembic/api.ErrFault", "alembic/api.ErrWord", "alembic/api.ErrNumber"], apart := false, laid := [("alembic/api.ErrRange", laid_alembic_api_ErrRange), ("alembic/api.ErrLength", laid_alembic_api_ErrLength), ("alembic/api.ErrMany", laid_alembic_api_ErrMany), ("alembic/api.ErrShape", laid_alembic_api_ErrShape), ("alembic/api.ErrNone", laid_alembic_api_ErrNone), ("alembic/api.ErrOp", laid_alembic_api_ErrOp), ("alembic/api.ErrVar", laid_alembic_api_ErrVar), ("alembic/api.ErrSecret", laid_alembic_api_ErrSecret), ("alembic/api.ErrLabel", laid_alembic_api_ErrLabel), ("alembic/api.ErrFar", laid_alembic_api_ErrFar), ("alembic/api.ErrFuel", laid_alembic_api_ErrFuel), ("alembic/api.ErrFault", laid_alembic_api_ErrFault), ("alembic/api.ErrWord", laid_alembic_api_ErrWord), ("alembic/api.ErrNumber", laid_alembic_api_ErrNumber)] }
def RingSaysSaid : Prop := ringSaysRow.holds Tryd.pinned (OpenSpec.ofChange ringSaysSpec)

/-- ITS FALSE NEIGHBOUR: 'it returns false'. Refute it at one input. -/
def ringSaysWrong : ChangeSpec := { name := "ringSays", fn := fun _ => fun
  | [d1, d2, d3, d4] => { results := [.lit (.bool false)], args := [d1, d2, d3, d4] }
  | _ => none }
def RingSaysWrongFalsely : Prop := ringSaysRow.holds Tryd.pinned (OpenSpec.ofChange ringSaysWrong)

/-- 'alembiclaw2.RingPoints': WHATEVER THE INPUT: true; the input reads as it did. -/
def ringPointsSpec : ChangeSpec := { name := "ringPoints", fn := fun _ => fun
  | [d1, d2, d3, d4, d5] => { results := [.lit (.bool true)], args := [d1, d2, d3, d4, d5] }
  | _ => none }
def ringPointsRow : OpenClaim := { program := "ytcebddjidpbhgaadoor", sum := "547b7771c0656b0f625cdd76f2b6a19c5c72a1953d9bfcbdacc6c5b2451477c2", func := "alembic/alembiclaw2.RingPoints", spec := "ringPoints", unfollowed := true, recurses := true, named := ["alembic/api.ErrLength", "alembic/api.ErrRange"], apart := false, laid := [("alembic/api.ErrRange", laid_alembic_api_ErrRange), ("alembic/api.ErrLength", laid_alembic_api_ErrLength)] }
def RingPointsSaid : Prop := ringPointsRow.holds Tryd.pinned (OpenSpec.ofChange ringPointsSpec)

/-- ITS FALSE NEIGHBOUR: 'it returns false'. Refute it at one input. -/
def ringPointsWrong : ChangeSpec := { name := "ringPoints", fn := fun _ => fun
  | [d1, d2, d3, d4, d5] => { results := [.lit (.bool false)], args := [d1, d2, d3, d4, d5] }
  | _ => none }
def RingPointsWrongFalsely : Prop := ringPointsRow.holds Tryd.pinned (OpenSpec.ofChange ringPointsWrong)

/-- 'alembiclaw3.NttLinear': WHATEVER THE INPUT: true; the input reads as it did. -/
def nttLinearSpec : ChangeSpec := { name := "nttLinear", fn := fun _ => fun
  | [d1, d2, d3, d4, d5] => { results := [.lit (.bool true)], args := [d1, d2, d3, d4, d5] }
  | _ => none }
def nttLinearRow : OpenClaim := { program := "ytcebddjidpbhgaadoor", sum := "547b7771c0656b0f625cdd76f2b6a19c5c72a1953d9bfcbdacc6c5b2451477c2", func := "alembic/alembiclaw3.NttLinear", spec := "nttLinear", unfollowed := true, recurses := true, named := ["alembic/api.ErrRange", "alembic/api.ErrLength"], apart := false, laid := [("alembic/api.ErrRange", laid_alembic_api_ErrRange), ("alembic/api.ErrLength", laid_alembic_api_ErrLength)] }
def NttLinearSaid : Prop := nttLinearRow.holds Tryd.pinned (OpenSpec.ofChange nttLinearSpec)

/-- ITS FALSE NEIGHBOUR: 'it returns false'. Refute it at one input. -/
def nttLinearWrong : ChangeSpec := { name := "nttLinear", fn := fun _ => fun
  | [d1, d2, d3, d4, d5] => { results := [.lit (.bool false)], args := [d1, d2, d3, d4, d5] }
  | _ => none }
def NttLinearWrongFalsely : Prop := nttLinearRow.holds Tryd.pinned (OpenSpec.ofChange nttLinearWrong)

/-- 'alembiclaw3.NttGreat': WHATEVER THE INPUT: true; the input reads as it did. -/
def nttGreatSpec : ChangeSpec := { name := "nttGreat", fn := fun _ => fun
  | [d1, d2] => { results := [.lit (.bool true)], args := [d1, d2] }
  | _ => none }
def nttGreatRow : OpenClaim := { program := "ytcebddjidpbhgaadoor", sum := "547b7771c0656b0f625cdd76f2b6a19c5c72a1953d9bfcbdacc6c5b2451477c2", func := "alembic/alembiclaw3.NttGreat", spec := "nttGreat", named := ["alembic/api.ErrRange", "alembic/api.ErrLength"], apart := false, laid := [("alembic/api.ErrRange", laid_alembic_api_ErrRange), ("alembic/api.ErrLength", laid_alembic_api_ErrLength)] }
def NttGreatSaid : Prop := nttGreatRow.holds Tryd.pinned (OpenSpec.ofChange nttGreatSpec)

/-- ITS FALSE NEIGHBOUR: 'it returns false'. Refute it at one input. -/
def nttGreatWrong : ChangeSpec := { name := "nttGreat", fn := fun _ => fun
  | [d1, d2] => { results := [.lit (.bool false)], args := [d1, d2] }
  | _ => none }
def NttGreatWrongFalsely : Prop := nttGreatRow.holds Tryd.pinned (OpenSpec.ofChange nttGreatWrong)

/-- 'alembiclaw3.NttSays': WHATEVER THE INPUT: true; the input reads as it did. -/
def nttSaysSpec : ChangeSpec := { name := "nttSays", fn := fun _ => fun
  | [d1, d2, d3] => { results := [.lit (.bool true)], args := [d1, d2, d3] }
  | _ => none }
def nttSaysRow : OpenClaim := { program := "ytcebddjidpbhgaadoor", sum := "547b7771c0656b0f625cdd76f2b6a19c5c72a1953d9bfcbdacc6c5b2451477c2", func := "alembic/alembiclaw3.NttSays", spec := "nttSays", named := ["alembic/api.ErrRange", "alembic/api.ErrLength", "alembic/api.ErrMany", "alembic/api.ErrShape", "alembic/api.ErrNone", "alembic/api.ErrOp", "alembic/api.ErrVar", "alembic/api.ErrSecret", "alembic/api.ErrLabel", "alembic/api.ErrFar", "alembic/api.ErrFuel", "alembic/api.ErrFault", "alembic/api.ErrWord", "alembic/api.ErrNumber"], apart := false, laid := [("alembic/api.ErrRange", laid_alembic_api_ErrRange), ("alembic/api.ErrLength", laid_alembic_api_ErrLength), ("alembic/api.ErrMany", laid_alembic_api_ErrMany), ("alembic/api.ErrShape", laid_alembic_api_ErrShape), ("alembic/api.ErrNone", laid_alembic_api_ErrNone), ("alembic/api.ErrOp", laid_alembic_api_ErrOp), ("alembic/api.ErrVar", laid_alembic_api_ErrVar), ("alembic/api.ErrSecret", laid_alembic_api_ErrSecret), ("alembic/api.ErrLabel", laid_alembic_api_ErrLabel), ("alembic/api.ErrFar", laid_alembic_api_ErrFar), ("alembic/api.ErrFuel", laid_alembic_api_ErrFuel), ("alembic/api.ErrFault", laid_alembic_api_ErrFault), ("alembic/api.ErrWord", laid_alembic_api_ErrWord), ("alembic/api.ErrNumber", laid_alembic_api_ErrNumber)] }
def NttSaysSaid : Prop := nttSaysRow.holds Tryd.pinned (OpenSpec.ofChange nttSaysSpec)

/-- ITS FALSE NEIGHBOUR: 'it returns false'. Refute it at one input. -/
def nttSaysWrong : ChangeSpec := { name := "nttSays", fn := fun _ => fun
  | [d1, d2, d3] => { results := [.lit (.bool false)], args := [d1, d2, d3] }
  | _ => none }
def NttSaysWrongFalsely : Prop := nttSaysRow.holds Tryd.pinned (OpenSpec.ofChange nttSaysWrong)

/-- 'alembiclaw3.NttBack': WHATEVER THE INPUT: true; the input reads as it did. -/
def nttBackSpec : ChangeSpec := { name := "nttBack", fn := fun _ => fun
  | [d1, d2, d3, d4] => { results := [.lit (.bool true)], args := [d1, d2, d3, d4] }
  | _ => none }
def nttBackRow : OpenClaim := { program := "ytcebddjidpbhgaadoor", sum := "547b7771c0656b0f625cdd76f2b6a19c5c72a1953d9bfcbdacc6c5b2451477c2", func := "alembic/alembiclaw3.NttBack", spec := "nttBack", named := ["alembic/api.ErrRange", "alembic/api.ErrLength"], apart := false, laid := [("alembic/api.ErrRange", laid_alembic_api_ErrRange), ("alembic/api.ErrLength", laid_alembic_api_ErrLength)] }
def NttBackSaid : Prop := nttBackRow.holds Tryd.pinned (OpenSpec.ofChange nttBackSpec)

/-- ITS FALSE NEIGHBOUR: 'it returns false'. Refute it at one input. -/
def nttBackWrong : ChangeSpec := { name := "nttBack", fn := fun _ => fun
  | [d1, d2, d3, d4] => { results := [.lit (.bool false)], args := [d1, d2, d3, d4] }
  | _ => none }
def NttBackWrongFalsely : Prop := nttBackRow.holds Tryd.pinned (OpenSpec.ofChange nttBackWrong)

/- THE SECOND FORM. 'bulk': how many values and letters a reading holds, each counted each time it is reached (what is shared counts as often as it is met; a slice's spare places count too). A statement '..UptoSaid' is the law's where the arguments, and the package variables that the reading takes, are together of bulk at most 1048576: NARROWER than '..Said'. Prove '..Said' where nothing that the law and all that it calls make is longer than what came in: it says more and counts as full. Else prove '..UptoSaid'. A law counts once. -/
mutual
def uptoBulk {H : Type} : DataW H → Nat
  | .lit (.string bytes) => bytes.length + 1
  | .lit _ => 1
  | .nil => 1
  | .ptr d => uptoBulk d + 1
  | .slice elems spare => uptoBulkAll elems + uptoBulkAll spare + 1
  | .agg parts => uptoBulkAll parts + 1
  | .iface _ d => uptoBulk d + 1
  | .map entries => uptoBulkEntries entries + 1
  | .held _ => 1
def uptoBulkAll {H : Type} : List (DataW H) → Nat
  | [] => 0
  | d :: r => uptoBulk d + uptoBulkAll r
def uptoBulkEntries {H : Type} : List (Lit × DataW H) → Nat
  | [] => 0
  | x :: r => uptoBulkEntry x + uptoBulkEntries r
def uptoBulkEntry {H : Type} : Lit × DataW H → Nat
  | (.string bytes, d) => bytes.length + uptoBulk d + 1
  | (_, d) => uptoBulk d + 1
 end
def uptoSmall : (H : Type) → List (DataW H) → Bool := fun _ ds => decide (uptoBulkAll ds ≤ 1048576)
def OpenSpec.upto (s : _root_.Go.ChangeSpec) : _root_.Go.OpenSpec := { _root_.Go.OpenSpec.ofChange s with cond := some uptoSmall }

/-- 'alembiclaw7.RoundRises', WHERE WHAT IT READS IS OF BULK AT MOST 1048576: true; the input reads as it did. -/
def roundRisesUptoRow : OpenClaim := { program := "ytcebddjidpbhgaadoor", sum := "547b7771c0656b0f625cdd76f2b6a19c5c72a1953d9bfcbdacc6c5b2451477c2", func := "alembic/alembiclaw7.RoundRises", spec := "roundRises", named := ["alembic/api.ErrRange", "alembic/api.ErrLength"], apart := false, laid := [("alembic/api.ErrRange", laid_alembic_api_ErrRange), ("alembic/api.ErrLength", laid_alembic_api_ErrLength)], narrowed := true }
def RoundRisesUptoSaid : Prop := roundRisesUptoRow.holds Tryd.pinned (OpenSpec.upto roundRisesSpec)

/-- 'alembiclaw7.RoundSays', WHERE WHAT IT READS IS OF BULK AT MOST 1048576: true; the input reads as it did. -/
def roundSaysUptoRow : OpenClaim := { program := "ytcebddjidpbhgaadoor", sum := "547b7771c0656b0f625cdd76f2b6a19c5c72a1953d9bfcbdacc6c5b2451477c2", func := "alembic/alembiclaw7.RoundSays", spec := "roundSays", named := ["alembic/api.ErrRange", "alembic/api.ErrLength", "alembic/api.ErrMany", "alembic/api.ErrShape", "alembic/api.ErrNone", "alembic/api.ErrOp", "alembic/api.ErrVar", "alembic/api.ErrSecret", "alembic/api.ErrLabel", "alembic/api.ErrFar", "alembic/api.ErrFuel", "alembic/api.ErrFault", "alembic/api.ErrWord", "alembic/api.ErrNumber"], apart := false, laid := [("alembic/api.ErrRange", laid_alembic_api_ErrRange), ("alembic/api.ErrLength", laid_alembic_api_ErrLength), ("alembic/api.ErrMany", laid_alembic_api_ErrMany), ("alembic/api.ErrShape", laid_alembic_api_ErrShape), ("alembic/api.ErrNone", laid_alembic_api_ErrNone), ("alembic/api.ErrOp", laid_alembic_api_ErrOp), ("alembic/api.ErrVar", laid_alembic_api_ErrVar), ("alembic/api.ErrSecret", laid_alembic_api_ErrSecret), ("alembic/api.ErrLabel", laid_alembic_api_ErrLabel), ("alembic/api.ErrFar", laid_alembic_api_ErrFar), ("alembic/api.ErrFuel", laid_alembic_api_ErrFuel), ("alembic/api.ErrFault", laid_alembic_api_ErrFault), ("alembic/api.ErrWord", laid_alembic_api_ErrWord), ("alembic/api.ErrNumber", laid_alembic_api_ErrNumber)], narrowed := true }
def RoundSaysUptoSaid : Prop := roundSaysUptoRow.holds Tryd.pinned (OpenSpec.upto roundSaysSpec)

/-- 'alembiclaw2.ConvSays', WHERE WHAT IT READS IS OF BULK AT MOST 1048576: true; the input reads as it did. -/
def convSaysUptoRow : OpenClaim := { program := "ytcebddjidpbhgaadoor", sum := "547b7771c0656b0f625cdd76f2b6a19c5c72a1953d9bfcbdacc6c5b2451477c2", func := "alembic/alembiclaw2.ConvSays", spec := "convSays", named := ["alembic/api.ErrLength", "alembic/api.ErrRange", "alembic/api.ErrMany", "alembic/api.ErrShape", "alembic/api.ErrNone", "alembic/api.ErrOp", "alembic/api.ErrVar", "alembic/api.ErrSecret", "alembic/api.ErrLabel", "alembic/api.ErrFar", "alembic/api.ErrFuel", "alembic/api.ErrFault", "alembic/api.ErrWord", "alembic/api.ErrNumber"], apart := false, laid := [("alembic/api.ErrRange", laid_alembic_api_ErrRange), ("alembic/api.ErrLength", laid_alembic_api_ErrLength), ("alembic/api.ErrMany", laid_alembic_api_ErrMany), ("alembic/api.ErrShape", laid_alembic_api_ErrShape), ("alembic/api.ErrNone", laid_alembic_api_ErrNone), ("alembic/api.ErrOp", laid_alembic_api_ErrOp), ("alembic/api.ErrVar", laid_alembic_api_ErrVar), ("alembic/api.ErrSecret", laid_alembic_api_ErrSecret), ("alembic/api.ErrLabel", laid_alembic_api_ErrLabel), ("alembic/api.ErrFar", laid_alembic_api_ErrFar), ("alembic/api.ErrFuel", laid_alembic_api_ErrFuel), ("alembic/api.ErrFault", laid_alembic_api_ErrFault), ("alembic/api.ErrWord", laid_alembic_api_ErrWord), ("alembic/api.ErrNumber", laid_alembic_api_ErrNumber)], narrowed := true }
def ConvSaysUptoSaid : Prop := convSaysUptoRow.holds Tryd.pinned (OpenSpec.upto convSaysSpec)

/-- 'alembiclaw2.ConvMonos', WHERE WHAT IT READS IS OF BULK AT MOST 1048576: true; the input reads as it did. -/
def convMonosUptoRow : OpenClaim := { program := "ytcebddjidpbhgaadoor", sum := "547b7771c0656b0f625cdd76f2b6a19c5c72a1953d9bfcbdacc6c5b2451477c2", func := "alembic/alembiclaw2.ConvMonos", spec := "convMonos", named := ["alembic/api.ErrLength", "alembic/api.ErrRange"], apart := false, laid := [("alembic/api.ErrRange", laid_alembic_api_ErrRange), ("alembic/api.ErrLength", laid_alembic_api_ErrLength)], narrowed := true }
def ConvMonosUptoSaid : Prop := convMonosUptoRow.holds Tryd.pinned (OpenSpec.upto convMonosSpec)

/-- 'alembiclaw3.NttOrder', WHERE WHAT IT READS IS OF BULK AT MOST 1048576: true; the input reads as it did. -/
def nttOrderUptoRow : OpenClaim := { program := "ytcebddjidpbhgaadoor", sum := "547b7771c0656b0f625cdd76f2b6a19c5c72a1953d9bfcbdacc6c5b2451477c2", func := "alembic/alembiclaw3.NttOrder", spec := "nttOrder", named := ["alembic/api.ErrRange"], apart := false, laid := [("alembic/api.ErrRange", laid_alembic_api_ErrRange)], narrowed := true }
def NttOrderUptoSaid : Prop := nttOrderUptoRow.holds Tryd.pinned (OpenSpec.upto nttOrderSpec)

/-- 'alembiclaw7.RoundLoss', WHERE WHAT IT READS IS OF BULK AT MOST 1048576: true; the input reads as it did. -/
def roundLossUptoRow : OpenClaim := { program := "ytcebddjidpbhgaadoor", sum := "547b7771c0656b0f625cdd76f2b6a19c5c72a1953d9bfcbdacc6c5b2451477c2", func := "alembic/alembiclaw7.RoundLoss", spec := "roundLoss", named := ["alembic/api.ErrRange", "alembic/api.ErrLength", "alembic/api.ErrMany", "alembic/api.ErrShape", "alembic/api.ErrNone", "alembic/api.ErrOp", "alembic/api.ErrVar", "alembic/api.ErrSecret", "alembic/api.ErrLabel", "alembic/api.ErrFar", "alembic/api.ErrFuel", "alembic/api.ErrFault", "alembic/api.ErrWord", "alembic/api.ErrNumber"], apart := false, laid := [("alembic/api.ErrRange", laid_alembic_api_ErrRange), ("alembic/api.ErrLength", laid_alembic_api_ErrLength), ("alembic/api.ErrMany", laid_alembic_api_ErrMany), ("alembic/api.ErrShape", laid_alembic_api_ErrShape), ("alembic/api.ErrNone", laid_alembic_api_ErrNone), ("alembic/api.ErrOp", laid_alembic_api_ErrOp), ("alembic/api.ErrVar", laid_alembic_api_ErrVar), ("alembic/api.ErrSecret", laid_alembic_api_ErrSecret), ("alembic/api.ErrLabel", laid_alembic_api_ErrLabel), ("alembic/api.ErrFar", laid_alembic_api_ErrFar), ("alembic/api.ErrFuel", laid_alembic_api_ErrFuel), ("alembic/api.ErrFault", laid_alembic_api_ErrFault), ("alembic/api.ErrWord", laid_alembic_api_ErrWord), ("alembic/api.ErrNumber", laid_alembic_api_ErrNumber)], narrowed := true }
def RoundLossUptoSaid : Prop := roundLossUptoRow.holds Tryd.pinned (OpenSpec.upto roundLossSpec)

/-- 'alembiclaw2.ConvRing', WHERE WHAT IT READS IS OF BULK AT MOST 1048576: true; the input reads as it did. -/
def convRingUptoRow : OpenClaim := { program := "ytcebddjidpbhgaadoor", sum := "547b7771c0656b0f625cdd76f2b6a19c5c72a1953d9bfcbdacc6c5b2451477c2", func := "alembic/alembiclaw2.ConvRing", spec := "convRing", unfollowed := true, recurses := true, named := ["alembic/api.ErrLength", "alembic/api.ErrRange"], apart := false, laid := [("alembic/api.ErrRange", laid_alembic_api_ErrRange), ("alembic/api.ErrLength", laid_alembic_api_ErrLength)], narrowed := true }
def ConvRingUptoSaid : Prop := convRingUptoRow.holds Tryd.pinned (OpenSpec.upto convRingSpec)

/-- 'alembiclaw7.RoundBack', WHERE WHAT IT READS IS OF BULK AT MOST 1048576: true; the input reads as it did. -/
def roundBackUptoRow : OpenClaim := { program := "ytcebddjidpbhgaadoor", sum := "547b7771c0656b0f625cdd76f2b6a19c5c72a1953d9bfcbdacc6c5b2451477c2", func := "alembic/alembiclaw7.RoundBack", spec := "roundBack", named := ["alembic/api.ErrRange", "alembic/api.ErrLength"], apart := false, laid := [("alembic/api.ErrRange", laid_alembic_api_ErrRange), ("alembic/api.ErrLength", laid_alembic_api_ErrLength)], narrowed := true }
def RoundBackUptoSaid : Prop := roundBackUptoRow.holds Tryd.pinned (OpenSpec.upto roundBackSpec)

/-- 'alembiclaw2.RingMod', WHERE WHAT IT READS IS OF BULK AT MOST 1048576: true; the input reads as it did. -/
def ringModUptoRow : OpenClaim := { program := "ytcebddjidpbhgaadoor", sum := "547b7771c0656b0f625cdd76f2b6a19c5c72a1953d9bfcbdacc6c5b2451477c2", func := "alembic/alembiclaw2.RingMod", spec := "ringMod", unfollowed := true, recurses := true, named := ["alembic/api.ErrLength", "alembic/api.ErrRange", "alembic/api.ErrMany", "alembic/api.ErrShape", "alembic/api.ErrNone", "alembic/api.ErrOp", "alembic/api.ErrVar", "alembic/api.ErrSecret", "alembic/api.ErrLabel", "alembic/api.ErrFar", "alembic/api.ErrFuel", "alembic/api.ErrFault", "alembic/api.ErrWord", "alembic/api.ErrNumber"], apart := false, laid := [("alembic/api.ErrRange", laid_alembic_api_ErrRange), ("alembic/api.ErrLength", laid_alembic_api_ErrLength), ("alembic/api.ErrMany", laid_alembic_api_ErrMany), ("alembic/api.ErrShape", laid_alembic_api_ErrShape), ("alembic/api.ErrNone", laid_alembic_api_ErrNone), ("alembic/api.ErrOp", laid_alembic_api_ErrOp), ("alembic/api.ErrVar", laid_alembic_api_ErrVar), ("alembic/api.ErrSecret", laid_alembic_api_ErrSecret), ("alembic/api.ErrLabel", laid_alembic_api_ErrLabel), ("alembic/api.ErrFar", laid_alembic_api_ErrFar), ("alembic/api.ErrFuel", laid_alembic_api_ErrFuel), ("alembic/api.ErrFault", laid_alembic_api_ErrFault), ("alembic/api.ErrWord", laid_alembic_api_ErrWord), ("alembic/api.ErrNumber", laid_alembic_api_ErrNumber)], narrowed := true }
def RingModUptoSaid : Prop := ringModUptoRow.holds Tryd.pinned (OpenSpec.upto ringModSpec)

/-- 'alembiclaw2.RingSays', WHERE WHAT IT READS IS OF BULK AT MOST 1048576: true; the input reads as it did. -/
def ringSaysUptoRow : OpenClaim := { program := "ytcebddjidpbhgaadoor", sum := "547b7771c0656b0f625cdd76f2b6a19c5c72a1953d9bfcbdacc6c5b2451477c2", func := "alembic/alembiclaw2.RingSays", spec := "ringSays", unfollowed := true, recurses := true, named := ["alembic/api.ErrLength", "alembic/api.ErrRange", "alembic/api.ErrMany", "alembic/api.ErrShape", "alembic/api.ErrNone", "alembic/api.ErrOp", "alembic/api.ErrVar", "alembic/api.ErrSecret", "alembic/api.ErrLabel", "alembic/api.ErrFar", "alembic/api.ErrFuel", "alembic/api.ErrFault", "alembic/api.ErrWord", "alembic/api.ErrNumber"], apart := false, laid := [("alembic/api.ErrRange", laid_alembic_api_ErrRange), ("alembic/api.ErrLength", laid_alembic_api_ErrLength), ("alembic/api.ErrMany", laid_alembic_api_ErrMany), ("alembic/api.ErrShape", laid_alembic_api_ErrShape), ("alembic/api.ErrNone", laid_alembic_api_ErrNone), ("alembic/api.ErrOp", laid_alembic_api_ErrOp), ("alembic/api.ErrVar", laid_alembic_api_ErrVar), ("alembic/api.ErrSecret", laid_alembic_api_ErrSecret), ("alembic/api.ErrLabel", laid_alembic_api_ErrLabel), ("alembic/api.ErrFar", laid_alembic_api_ErrFar), ("alembic/api.ErrFuel", laid_alembic_api_ErrFuel), ("alembic/api.ErrFault", laid_alembic_api_ErrFault), ("alembic/api.ErrWord", laid_alembic_api_ErrWord), ("alembic/api.ErrNumber", laid_alembic_api_ErrNumber)], narrowed := true }
def RingSaysUptoSaid : Prop := ringSaysUptoRow.holds Tryd.pinned (OpenSpec.upto ringSaysSpec)

/-- 'alembiclaw2.RingPoints', WHERE WHAT IT READS IS OF BULK AT MOST 1048576: true; the input reads as it did. -/
def ringPointsUptoRow : OpenClaim := { program := "ytcebddjidpbhgaadoor", sum := "547b7771c0656b0f625cdd76f2b6a19c5c72a1953d9bfcbdacc6c5b2451477c2", func := "alembic/alembiclaw2.RingPoints", spec := "ringPoints", unfollowed := true, recurses := true, named := ["alembic/api.ErrLength", "alembic/api.ErrRange"], apart := false, laid := [("alembic/api.ErrRange", laid_alembic_api_ErrRange), ("alembic/api.ErrLength", laid_alembic_api_ErrLength)], narrowed := true }
def RingPointsUptoSaid : Prop := ringPointsUptoRow.holds Tryd.pinned (OpenSpec.upto ringPointsSpec)

/-- 'alembiclaw3.NttLinear', WHERE WHAT IT READS IS OF BULK AT MOST 1048576: true; the input reads as it did. -/
def nttLinearUptoRow : OpenClaim := { program := "ytcebddjidpbhgaadoor", sum := "547b7771c0656b0f625cdd76f2b6a19c5c72a1953d9bfcbdacc6c5b2451477c2", func := "alembic/alembiclaw3.NttLinear", spec := "nttLinear", unfollowed := true, recurses := true, named := ["alembic/api.ErrRange", "alembic/api.ErrLength"], apart := false, laid := [("alembic/api.ErrRange", laid_alembic_api_ErrRange), ("alembic/api.ErrLength", laid_alembic_api_ErrLength)], narrowed := true }
def NttLinearUptoSaid : Prop := nttLinearUptoRow.holds Tryd.pinned (OpenSpec.upto nttLinearSpec)

/-- 'alembiclaw3.NttGreat', WHERE WHAT IT READS IS OF BULK AT MOST 1048576: true; the input reads as it did. -/
def nttGreatUptoRow : OpenClaim := { program := "ytcebddjidpbhgaadoor", sum := "547b7771c0656b0f625cdd76f2b6a19c5c72a1953d9bfcbdacc6c5b2451477c2", func := "alembic/alembiclaw3.NttGreat", spec := "nttGreat", named := ["alembic/api.ErrRange", "alembic/api.ErrLength"], apart := false, laid := [("alembic/api.ErrRange", laid_alembic_api_ErrRange), ("alembic/api.ErrLength", laid_alembic_api_ErrLength)], narrowed := true }
def NttGreatUptoSaid : Prop := nttGreatUptoRow.holds Tryd.pinned (OpenSpec.upto nttGreatSpec)

/-- 'alembiclaw3.NttSays', WHERE WHAT IT READS IS OF BULK AT MOST 1048576: true; the input reads as it did. -/
def nttSaysUptoRow : OpenClaim := { program := "ytcebddjidpbhgaadoor", sum := "547b7771c0656b0f625cdd76f2b6a19c5c72a1953d9bfcbdacc6c5b2451477c2", func := "alembic/alembiclaw3.NttSays", spec := "nttSays", named := ["alembic/api.ErrRange", "alembic/api.ErrLength", "alembic/api.ErrMany", "alembic/api.ErrShape", "alembic/api.ErrNone", "alembic/api.ErrOp", "alembic/api.ErrVar", "alembic/api.ErrSecret", "alembic/api.ErrLabel", "alembic/api.ErrFar", "alembic/api.ErrFuel", "alembic/api.ErrFault", "alembic/api.ErrWord", "alembic/api.ErrNumber"], apart := false, laid := [("alembic/api.ErrRange", laid_alembic_api_ErrRange), ("alembic/api.ErrLength", laid_alembic_api_ErrLength), ("alembic/api.ErrMany", laid_alembic_api_ErrMany), ("alembic/api.ErrShape", laid_alembic_api_ErrShape), ("alembic/api.ErrNone", laid_alembic_api_ErrNone), ("alembic/api.ErrOp", laid_alembic_api_ErrOp), ("alembic/api.ErrVar", laid_alembic_api_ErrVar), ("alembic/api.ErrSecret", laid_alembic_api_ErrSecret), ("alembic/api.ErrLabel", laid_alembic_api_ErrLabel), ("alembic/api.ErrFar", laid_alembic_api_ErrFar), ("alembic/api.ErrFuel", laid_alembic_api_ErrFuel), ("alembic/api.ErrFault", laid_alembic_api_ErrFault), ("alembic/api.ErrWord", laid_alembic_api_ErrWord), ("alembic/api.ErrNumber", laid_alembic_api_ErrNumber)], narrowed := true }
def NttSaysUptoSaid : Prop := nttSaysUptoRow.holds Tryd.pinned (OpenSpec.upto nttSaysSpec)

/-- 'alembiclaw3.NttBack', WHERE WHAT IT READS IS OF BULK AT MOST 1048576: true; the input reads as it did. -/
def nttBackUptoRow : OpenClaim := { program := "ytcebddjidpbhgaadoor", sum := "547b7771c0656b0f625cdd76f2b6a19c5c72a1953d9bfcbdacc6c5b2451477c2", func := "alembic/alembiclaw3.NttBack", spec := "nttBack", named := ["alembic/api.ErrRange", "alembic/api.ErrLength"], apart := false, laid := [("alembic/api.ErrRange", laid_alembic_api_ErrRange), ("alembic/api.ErrLength", laid_alembic_api_ErrLength)], narrowed := true }
def NttBackUptoSaid : Prop := nttBackUptoRow.holds Tryd.pinned (OpenSpec.upto nttBackSpec)

end Rows
end Go.Proofs.YtcebddjidpbhgaaDoor
