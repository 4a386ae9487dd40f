/-
  NARROWER THAN 'FOR EVERY INPUT', by the rows' own cells (each row's printed sentence says how): DrawUniform: laid · DrawRow: laid · SecFlows: laid · DrawCentered: laid · SecSays: loops, laid · SecRaised: loops, laid · WireHints: laid · DrawSmall: laid · WireSigs: laid · DrawBounds: laid · WireKeys: laid · WireBack: laid.
  DERIVED. THE GIVEN ROWS OF THIS SEAT. 12 by the template 'for every input the law returns true; each argument reads behind the call as it read before'; 0 by the template 'total and deterministic' (their statements: YtngoidkconngmaaDoorTotals.lean).
  GIVEN WITH THE SEED: the statements are not yours to turn. If you find one false, say at which input.
  Laid BY PROGRAM, IN A SANDBOX (cutbox-rows.mjs): the forced cells as the released guide's own fill.sh prints them over the translation cb8222ff8330d3b3… (all of the seat's roots in one cut). By AI agents, Wed Nov 11 2026. No macro, syntax, notation, axiom, sorry.
-/
import Derived.Test.YtngoidkconngmaaDoorChecked
import GoSem.Claim
import GoSem.ClaimJoined
import GoSem.ClaimMapViews
import Derived.JoinedTies
import Derived.KernelRfl
namespace Go.Proofs.YtngoidkconngmaaDoor
/- THE CELL 'sum', in the pinned program and in every row, IS THE sha256 OF THE DUMP (.gsa) THAT YtngoidkconngmaaDoorProg.lean LOADS. Nothing in Lean hashes anything: it is a label: what it is worth is what the hold of that sum in a sandbox is worth. -/
noncomputable def Tryd.pinned : Pinned := { name := "ytngoidkconngmaadoor", sum := "cb8222ff8330d3b383f7faf0713ee1e162fcf56f5e30e8c344fa580b24fbf7a6", checked := Tryd.checked }
namespace Rows
def none {H : Type} : Left H := { results := [], args := [] }

/- WHAT THE LISTED PACKAGE-LEVEL VARIABLES READ AS WHEN THE CALL BEGINS. Each datum BY PROGRAM (the guide's laid-datum.mjs) off the statement by which the dump's own 'gosem.cut.vars' lays the variable. In a bare row this is a premise. The card (YtngoidkconngmaaDoorCards.lean) ties it to the program's text. -/
def laid_alembic_api_ErrRange {H : Type} : DataW H := .iface "*errors.errorString" (.ptr (.agg [.lit (.string [97, 32, 110, 117, 109, 98, 101, 114, 32, 111, 117, 116, 32, 111, 102, 32, 105, 116, 115, 32, 114, 97, 110, 103, 101])]))
def laid_alembic_api_ErrShape {H : Type} : DataW H := .iface "*errors.errorString" (.ptr (.agg [.lit (.string [110, 111, 116, 32, 97, 115, 32, 105, 116, 32, 104, 97, 115, 32, 116, 111, 32, 98, 101])]))
def laid_alembic_api_ErrLength {H : Type} : DataW H := .iface "*errors.errorString" (.ptr (.agg [.lit (.string [110, 111, 116, 32, 97, 115, 32, 108, 111, 110, 103, 32, 97, 115, 32, 105, 116, 32, 104, 97, 115, 32, 116, 111, 32, 98, 101])]))
def laid_alembic_api_ErrMany {H : Type} : DataW H := .iface "*errors.errorString" (.ptr (.agg [.lit (.string [116, 111, 111, 32, 109, 97, 110, 121])]))
def laid_alembic_api_ErrNone {H : Type} : DataW H := .iface "*errors.errorString" (.ptr (.agg [.lit (.string [116, 104, 101, 114, 101, 32, 105, 115, 32, 110, 111, 110, 101])]))
def laid_alembic_api_ErrOp {H : Type} : DataW H := .iface "*errors.errorString" (.ptr (.agg [.lit (.string [110, 111, 32, 115, 117, 99, 104, 32, 116, 104, 105, 110, 103, 32, 116, 111, 32, 100, 111])]))
def laid_alembic_api_ErrVar {H : Type} : DataW H := .iface "*errors.errorString" (.ptr (.agg [.lit (.string [110, 111, 32, 115, 117, 99, 104, 32, 118, 97, 114, 105, 97, 98, 108, 101])]))
def laid_alembic_api_ErrSecret {H : Type} : DataW H := .iface "*errors.errorString" (.ptr (.agg [.lit (.string [97, 32, 115, 101, 99, 114, 101, 116, 32, 119, 104, 101, 114, 101, 32, 105, 116, 32, 109, 97, 121, 32, 110, 111, 116, 32, 98, 101])]))
def laid_alembic_api_ErrLabel {H : Type} : DataW H := .iface "*errors.errorString" (.ptr (.agg [.lit (.string [110, 111, 32, 115, 117, 99, 104, 32, 112, 108, 97, 99, 101])]))
def laid_alembic_api_ErrFar {H : Type} : DataW H := .iface "*errors.errorString" (.ptr (.agg [.lit (.string [116, 111, 111, 32, 102, 97, 114])]))
def laid_alembic_api_ErrFuel {H : Type} : DataW H := .iface "*errors.errorString" (.ptr (.agg [.lit (.string [105, 116, 32, 116, 97, 107, 101, 115, 32, 116, 111, 111, 32, 108, 111, 110, 103])]))
def laid_alembic_api_ErrFault {H : Type} : DataW H := .iface "*errors.errorString" (.ptr (.agg [.lit (.string [119, 104, 101, 114, 101, 32, 116, 104, 101, 114, 101, 32, 105, 115, 32, 110, 111, 116, 104, 105, 110, 103])]))
def laid_alembic_api_ErrWord {H : Type} : DataW H := .iface "*errors.errorString" (.ptr (.agg [.lit (.string [110, 111, 32, 115, 117, 99, 104, 32, 119, 111, 114, 100])]))
def laid_alembic_api_ErrNumber {H : Type} : DataW H := .iface "*errors.errorString" (.ptr (.agg [.lit (.string [110, 111, 116, 32, 97, 32, 110, 117, 109, 98, 101, 114])]))

/-- 'alembiclaw9.DrawUniform': WHATEVER THE INPUT: true; the input reads as it did. -/
def drawUniformSpec : ChangeSpec := { name := "drawUniform", fn := fun _ => fun
  | [d1, d2, d3] => { results := [.lit (.bool true)], args := [d1, d2, d3] }
  | _ => none }
def drawUniformRow : OpenClaim := { program := "ytngoidkconngmaadoor", sum := "cb8222ff8330d3b383f7faf0713ee1e162fcf56f5e30e8c344fa580b24fbf7a6", func := "alembic/alembiclaw9.DrawUniform", spec := "drawUniform", named := ["alembic/api.ErrRange", "alembic/api.ErrShape"], apart := false, laid := [("alembic/api.ErrRange", laid_alembic_api_ErrRange), ("alembic/api.ErrShape", laid_alembic_api_ErrShape)] }
def DrawUniformSaid : Prop := drawUniformRow.holds Tryd.pinned (OpenSpec.ofChange drawUniformSpec)

/-- ITS FALSE NEIGHBOUR: 'it returns false'. Refute it at one input. -/
def drawUniformWrong : ChangeSpec := { name := "drawUniform", fn := fun _ => fun
  | [d1, d2, d3] => { results := [.lit (.bool false)], args := [d1, d2, d3] }
  | _ => none }
def DrawUniformWrongFalsely : Prop := drawUniformRow.holds Tryd.pinned (OpenSpec.ofChange drawUniformWrong)

/-- 'alembiclaw9.DrawRow': WHATEVER THE INPUT: true; the input reads as it did. -/
def drawRowSpec : ChangeSpec := { name := "drawRow", fn := fun _ => fun
  | [d1, d2, d3] => { results := [.lit (.bool true)], args := [d1, d2, d3] }
  | _ => none }
def drawRowRow : OpenClaim := { program := "ytngoidkconngmaadoor", sum := "cb8222ff8330d3b383f7faf0713ee1e162fcf56f5e30e8c344fa580b24fbf7a6", func := "alembic/alembiclaw9.DrawRow", spec := "drawRow", named := ["alembic/api.ErrRange", "alembic/api.ErrShape"], apart := false, laid := [("alembic/api.ErrRange", laid_alembic_api_ErrRange), ("alembic/api.ErrShape", laid_alembic_api_ErrShape)] }
def DrawRowSaid : Prop := drawRowRow.holds Tryd.pinned (OpenSpec.ofChange drawRowSpec)

/-- ITS FALSE NEIGHBOUR: 'it returns false'. Refute it at one input. -/
def drawRowWrong : ChangeSpec := { name := "drawRow", fn := fun _ => fun
  | [d1, d2, d3] => { results := [.lit (.bool false)], args := [d1, d2, d3] }
  | _ => none }
def DrawRowWrongFalsely : Prop := drawRowRow.holds Tryd.pinned (OpenSpec.ofChange drawRowWrong)

/-- 'alembiclaw14.SecFlows': WHATEVER THE INPUT: true; the input reads as it did. -/
def secFlowsSpec : ChangeSpec := { name := "secFlows", fn := fun _ => fun
  | [d1, d2] => { results := [.lit (.bool true)], args := [d1, d2] }
  | _ => none }
def secFlowsRow : OpenClaim := { program := "ytngoidkconngmaadoor", sum := "cb8222ff8330d3b383f7faf0713ee1e162fcf56f5e30e8c344fa580b24fbf7a6", func := "alembic/alembiclaw14.SecFlows", spec := "secFlows", unfollowed := true, recurses := true, named := ["alembic/api.ErrSecret", "alembic/api.ErrMany", "alembic/api.ErrRange", "alembic/api.ErrOp", "alembic/api.ErrVar", "alembic/api.ErrShape", "alembic/api.ErrLength", "alembic/api.ErrNone", "alembic/api.ErrLabel", "alembic/api.ErrFar", "alembic/api.ErrFuel", "alembic/api.ErrFault", "alembic/api.ErrWord", "alembic/api.ErrNumber"], apart := false, laid := [("alembic/api.ErrRange", laid_alembic_api_ErrRange), ("alembic/api.ErrLength", laid_alembic_api_ErrLength), ("alembic/api.ErrMany", laid_alembic_api_ErrMany), ("alembic/api.ErrShape", laid_alembic_api_ErrShape), ("alembic/api.ErrNone", laid_alembic_api_ErrNone), ("alembic/api.ErrOp", laid_alembic_api_ErrOp), ("alembic/api.ErrVar", laid_alembic_api_ErrVar), ("alembic/api.ErrSecret", laid_alembic_api_ErrSecret), ("alembic/api.ErrLabel", laid_alembic_api_ErrLabel), ("alembic/api.ErrFar", laid_alembic_api_ErrFar), ("alembic/api.ErrFuel", laid_alembic_api_ErrFuel), ("alembic/api.ErrFault", laid_alembic_api_ErrFault), ("alembic/api.ErrWord", laid_alembic_api_ErrWord), ("alembic/api.ErrNumber", laid_alembic_api_ErrNumber)] }
def SecFlowsSaid : Prop := secFlowsRow.holds Tryd.pinned (OpenSpec.ofChange secFlowsSpec)

/-- ITS FALSE NEIGHBOUR: 'it returns false'. Refute it at one input. -/
def secFlowsWrong : ChangeSpec := { name := "secFlows", fn := fun _ => fun
  | [d1, d2] => { results := [.lit (.bool false)], args := [d1, d2] }
  | _ => none }
def SecFlowsWrongFalsely : Prop := secFlowsRow.holds Tryd.pinned (OpenSpec.ofChange secFlowsWrong)

/-- 'alembiclaw9.DrawCentered': WHATEVER THE INPUT: true; the input reads as it did. -/
def drawCenteredSpec : ChangeSpec := { name := "drawCentered", fn := fun _ => fun
  | [d1, d2] => { results := [.lit (.bool true)], args := [d1, d2] }
  | _ => none }
def drawCenteredRow : OpenClaim := { program := "ytngoidkconngmaadoor", sum := "cb8222ff8330d3b383f7faf0713ee1e162fcf56f5e30e8c344fa580b24fbf7a6", func := "alembic/alembiclaw9.DrawCentered", spec := "drawCentered", unfollowed := true, recurses := true, named := ["alembic/api.ErrRange", "alembic/api.ErrShape", "alembic/api.ErrLength", "alembic/api.ErrMany", "alembic/api.ErrNone", "alembic/api.ErrOp", "alembic/api.ErrVar", "alembic/api.ErrSecret", "alembic/api.ErrLabel", "alembic/api.ErrFar", "alembic/api.ErrFuel", "alembic/api.ErrFault", "alembic/api.ErrWord", "alembic/api.ErrNumber"], apart := false, laid := [("alembic/api.ErrRange", laid_alembic_api_ErrRange), ("alembic/api.ErrLength", laid_alembic_api_ErrLength), ("alembic/api.ErrMany", laid_alembic_api_ErrMany), ("alembic/api.ErrShape", laid_alembic_api_ErrShape), ("alembic/api.ErrNone", laid_alembic_api_ErrNone), ("alembic/api.ErrOp", laid_alembic_api_ErrOp), ("alembic/api.ErrVar", laid_alembic_api_ErrVar), ("alembic/api.ErrSecret", laid_alembic_api_ErrSecret), ("alembic/api.ErrLabel", laid_alembic_api_ErrLabel), ("alembic/api.ErrFar", laid_alembic_api_ErrFar), ("alembic/api.ErrFuel", laid_alembic_api_ErrFuel), ("alembic/api.ErrFault", laid_alembic_api_ErrFault), ("alembic/api.ErrWord", laid_alembic_api_ErrWord), ("alembic/api.ErrNumber", laid_alembic_api_ErrNumber)] }
def DrawCenteredSaid : Prop := drawCenteredRow.holds Tryd.pinned (OpenSpec.ofChange drawCenteredSpec)

/-- ITS FALSE NEIGHBOUR: 'it returns false'. Refute it at one input. -/
def drawCenteredWrong : ChangeSpec := { name := "drawCentered", fn := fun _ => fun
  | [d1, d2] => { results := [.lit (.bool false)], args := [d1, d2] }
  | _ => none }
def DrawCenteredWrongFalsely : Prop := drawCenteredRow.holds Tryd.pinned (OpenSpec.ofChange drawCenteredWrong)

/-- 'alembiclaw14.SecSays': WHATEVER THE INPUT: true; the input reads as it did. -/
def secSaysSpec : ChangeSpec := { name := "secSays", fn := fun _ => fun
  | [d] => { results := [.lit (.bool true)], args := [d] }
  | _ => none }
def secSaysRow : OpenClaim := { program := "ytngoidkconngmaadoor", sum := "cb8222ff8330d3b383f7faf0713ee1e162fcf56f5e30e8c344fa580b24fbf7a6", func := "alembic/alembiclaw14.SecSays", spec := "secSays", unfollowed := true, recurses := true, named := ["alembic/api.ErrSecret", "alembic/api.ErrMany", "alembic/api.ErrRange", "alembic/api.ErrOp", "alembic/api.ErrVar", "alembic/api.ErrShape", "alembic/api.ErrLength", "alembic/api.ErrNone", "alembic/api.ErrLabel", "alembic/api.ErrFar", "alembic/api.ErrFuel", "alembic/api.ErrFault", "alembic/api.ErrWord", "alembic/api.ErrNumber"], loops := true, apart := false, laid := [("alembic/api.ErrRange", laid_alembic_api_ErrRange), ("alembic/api.ErrLength", laid_alembic_api_ErrLength), ("alembic/api.ErrMany", laid_alembic_api_ErrMany), ("alembic/api.ErrShape", laid_alembic_api_ErrShape), ("alembic/api.ErrNone", laid_alembic_api_ErrNone), ("alembic/api.ErrOp", laid_alembic_api_ErrOp), ("alembic/api.ErrVar", laid_alembic_api_ErrVar), ("alembic/api.ErrSecret", laid_alembic_api_ErrSecret), ("alembic/api.ErrLabel", laid_alembic_api_ErrLabel), ("alembic/api.ErrFar", laid_alembic_api_ErrFar), ("alembic/api.ErrFuel", laid_alembic_api_ErrFuel), ("alembic/api.ErrFault", laid_alembic_api_ErrFault), ("alembic/api.ErrWord", laid_alembic_api_ErrWord), ("alembic/api.ErrNumber", laid_alembic_api_ErrNumber)] }
def SecSaysSaid : Prop := secSaysRow.holds Tryd.pinned (OpenSpec.ofChange secSaysSpec)

/-- ITS FALSE NEIGHBOUR: 'it returns false'. Refute it at one input. -/
def secSaysWrong : ChangeSpec := { name := "secSays", fn := fun _ => fun
  | [d] => { results := [.lit (.bool false)], args := [d] }
  | _ => none }
def SecSaysWrongFalsely : Prop := secSaysRow.holds Tryd.pinned (OpenSpec.ofChange secSaysWrong)

/-- 'alembiclaw14.SecRaised': WHATEVER THE INPUT: true; the input reads as it did. -/
def secRaisedSpec : ChangeSpec := { name := "secRaised", fn := fun _ => fun
  | [d] => { results := [.lit (.bool true)], args := [d] }
  | _ => none }
def secRaisedRow : OpenClaim := { program := "ytngoidkconngmaadoor", sum := "cb8222ff8330d3b383f7faf0713ee1e162fcf56f5e30e8c344fa580b24fbf7a6", func := "alembic/alembiclaw14.SecRaised", spec := "secRaised", unfollowed := true, recurses := true, named := ["alembic/api.ErrSecret", "alembic/api.ErrMany", "alembic/api.ErrRange", "alembic/api.ErrOp", "alembic/api.ErrVar", "alembic/api.ErrShape"], loops := true, apart := false, laid := [("alembic/api.ErrRange", laid_alembic_api_ErrRange), ("alembic/api.ErrMany", laid_alembic_api_ErrMany), ("alembic/api.ErrShape", laid_alembic_api_ErrShape), ("alembic/api.ErrOp", laid_alembic_api_ErrOp), ("alembic/api.ErrVar", laid_alembic_api_ErrVar), ("alembic/api.ErrSecret", laid_alembic_api_ErrSecret)] }
def SecRaisedSaid : Prop := secRaisedRow.holds Tryd.pinned (OpenSpec.ofChange secRaisedSpec)

/-- ITS FALSE NEIGHBOUR: 'it returns false'. Refute it at one input. -/
def secRaisedWrong : ChangeSpec := { name := "secRaised", fn := fun _ => fun
  | [d] => { results := [.lit (.bool false)], args := [d] }
  | _ => none }
def SecRaisedWrongFalsely : Prop := secRaisedRow.holds Tryd.pinned (OpenSpec.ofChange secRaisedWrong)

/-- 'alembiclaw11.WireHints': WHATEVER THE INPUT: true; the input reads as it did. -/
def wireHintsSpec : ChangeSpec := { name := "wireHints", fn := fun _ => fun
  | [d1, d2, d3, d4] => { results := [.lit (.bool true)], args := [d1, d2, d3, d4] }
  | _ => none }
def wireHintsRow : OpenClaim := { program := "ytngoidkconngmaadoor", sum := "cb8222ff8330d3b383f7faf0713ee1e162fcf56f5e30e8c344fa580b24fbf7a6", func := "alembic/alembiclaw11.WireHints", spec := "wireHints", unfollowed := true, recurses := true, named := ["alembic/api.ErrRange", "alembic/api.ErrLength", "alembic/api.ErrMany", "alembic/api.ErrShape", "alembic/api.ErrNone", "alembic/api.ErrOp", "alembic/api.ErrVar", "alembic/api.ErrSecret", "alembic/api.ErrLabel", "alembic/api.ErrFar", "alembic/api.ErrFuel", "alembic/api.ErrFault", "alembic/api.ErrWord", "alembic/api.ErrNumber"], apart := false, laid := [("alembic/api.ErrRange", laid_alembic_api_ErrRange), ("alembic/api.ErrLength", laid_alembic_api_ErrLength), ("alembic/api.ErrMany", laid_alembic_api_ErrMany), ("alembic/api.ErrShape", laid_alembic_api_ErrShape), ("alembic/api.ErrNone", laid_alembic_api_ErrNone), ("alembic/api.ErrOp", laid_alembic_api_ErrOp), ("alembic/api.ErrVar", laid_alembic_api_ErrVar), ("alembic/api.ErrSecret", laid_alembic_api_ErrSecret), ("alembic/api.ErrLabel", laid_alembic_api_ErrLabel), ("alembic/api.ErrFar", laid_alembic_api_ErrFar), ("alembic/api.ErrFuel", laid_alembic_api_ErrFuel), ("alembic/api.ErrFault", laid_alembic_api_ErrFault), ("alembic/api.ErrWord", laid_alembic_api_ErrWord), ("alembic/api.ErrNumber", laid_alembic_api_ErrNumber)] }
def WireHintsSaid : Prop := wireHintsRow.holds Tryd.pinned (OpenSpec.ofChange wireHintsSpec)

/-- ITS FALSE NEIGHBOUR: 'it returns false'. Refute it at one input. -/
def wireHintsWrong : ChangeSpec := { name := "wireHints", fn := fun _ => fun
  | [d1, d2, d3, d4] => { results := [.lit (.bool false)], args := [d1, d2, d3, d4] }
  | _ => none }
def WireHintsWrongFalsely : Prop := wireHintsRow.holds Tryd.pinned (OpenSpec.ofChange wireHintsWrong)

/-- 'alembiclaw9.DrawSmall': WHATEVER THE INPUT: true; the input reads as it did. -/
def drawSmallSpec : ChangeSpec := { name := "drawSmall", fn := fun _ => fun
  | [d1, d2, d3, d4, d5] => { results := [.lit (.bool true)], args := [d1, d2, d3, d4, d5] }
  | _ => none }
def drawSmallRow : OpenClaim := { program := "ytngoidkconngmaadoor", sum := "cb8222ff8330d3b383f7faf0713ee1e162fcf56f5e30e8c344fa580b24fbf7a6", func := "alembic/alembiclaw9.DrawSmall", spec := "drawSmall", named := ["alembic/api.ErrRange", "alembic/api.ErrShape", "alembic/api.ErrLength", "alembic/api.ErrMany", "alembic/api.ErrNone", "alembic/api.ErrOp", "alembic/api.ErrVar", "alembic/api.ErrSecret", "alembic/api.ErrLabel", "alembic/api.ErrFar", "alembic/api.ErrFuel", "alembic/api.ErrFault", "alembic/api.ErrWord", "alembic/api.ErrNumber"], apart := false, laid := [("alembic/api.ErrRange", laid_alembic_api_ErrRange), ("alembic/api.ErrLength", laid_alembic_api_ErrLength), ("alembic/api.ErrMany", laid_alembic_api_ErrMany), ("alembic/api.ErrShape", laid_alembic_api_ErrShape), ("alembic/api.ErrNone", laid_alembic_api_ErrNone), ("alembic/api.ErrOp", laid_alembic_api_ErrOp), ("alembic/api.ErrVar", laid_alembic_api_ErrVar), ("alembic/api.ErrSecret", laid_alembic_api_ErrSecret), ("alembic/api.ErrLabel", laid_alembic_api_ErrLabel), ("alembic/api.ErrFar", laid_alembic_api_ErrFar), ("alembic/api.ErrFuel", laid_alembic_api_ErrFuel), ("alembic/api.ErrFault", laid_alembic_api_ErrFault), ("alembic/api.ErrWord", laid_alembic_api_ErrWord), ("alembic/api.ErrNumber", laid_alembic_api_ErrNumber)] }
def DrawSmallSaid : Prop := drawSmallRow.holds Tryd.pinned (OpenSpec.ofChange drawSmallSpec)

/-- ITS FALSE NEIGHBOUR: 'it returns false'. Refute it at one input. -/
def drawSmallWrong : ChangeSpec := { name := "drawSmall", fn := fun _ => fun
  | [d1, d2, d3, d4, d5] => { results := [.lit (.bool false)], args := [d1, d2, d3, d4, d5] }
  | _ => none }
def DrawSmallWrongFalsely : Prop := drawSmallRow.holds Tryd.pinned (OpenSpec.ofChange drawSmallWrong)

/-- 'alembiclaw11.WireSigs': WHATEVER THE INPUT: true; the input reads as it did. -/
def wireSigsSpec : ChangeSpec := { name := "wireSigs", fn := fun _ => fun
  | [d1, d2, d3, d4] => { results := [.lit (.bool true)], args := [d1, d2, d3, d4] }
  | _ => none }
def wireSigsRow : OpenClaim := { program := "ytngoidkconngmaadoor", sum := "cb8222ff8330d3b383f7faf0713ee1e162fcf56f5e30e8c344fa580b24fbf7a6", func := "alembic/alembiclaw11.WireSigs", spec := "wireSigs", unfollowed := true, recurses := true, named := ["alembic/api.ErrRange", "alembic/api.ErrLength", "alembic/api.ErrMany", "alembic/api.ErrShape", "alembic/api.ErrNone", "alembic/api.ErrOp", "alembic/api.ErrVar", "alembic/api.ErrSecret", "alembic/api.ErrLabel", "alembic/api.ErrFar", "alembic/api.ErrFuel", "alembic/api.ErrFault", "alembic/api.ErrWord", "alembic/api.ErrNumber"], apart := false, laid := [("alembic/api.ErrRange", laid_alembic_api_ErrRange), ("alembic/api.ErrLength", laid_alembic_api_ErrLength), ("alembic/api.ErrMany", laid_alembic_api_ErrMany), ("alembic/api.ErrShape", laid_alembic_api_ErrShape), ("alembic/api.ErrNone", laid_alembic_api_ErrNone), ("alembic/api.ErrOp", laid_alembic_api_ErrOp), ("alembic/api.ErrVar", laid_alembic_api_ErrVar), ("alembic/api.ErrSecret", laid_alembic_api_ErrSecret), ("alembic/api.ErrLabel", laid_alembic_api_ErrLabel), ("alembic/api.ErrFar", laid_alembic_api_ErrFar), ("alembic/api.ErrFuel", laid_alembic_api_ErrFuel), ("alembic/api.ErrFault", laid_alembic_api_ErrFault), ("alembic/api.ErrWord", laid_alembic_api_ErrWord), ("alembic/api.ErrNumber", laid_alembic_api_ErrNumber)] }
def WireSigsSaid : Prop := wireSigsRow.holds Tryd.pinned (OpenSpec.ofChange wireSigsSpec)

/-- ITS FALSE NEIGHBOUR: 'it returns false'. Refute it at one input. -/
def wireSigsWrong : ChangeSpec := { name := "wireSigs", fn := fun _ => fun
  | [d1, d2, d3, d4] => { results := [.lit (.bool false)], args := [d1, d2, d3, d4] }
  | _ => none }
def WireSigsWrongFalsely : Prop := wireSigsRow.holds Tryd.pinned (OpenSpec.ofChange wireSigsWrong)

/-- 'alembiclaw9.DrawBounds': WHATEVER THE INPUT: true; the input reads as it did. -/
def drawBoundsSpec : ChangeSpec := { name := "drawBounds", fn := fun _ => fun
  | [d1, d2, d3, d4] => { results := [.lit (.bool true)], args := [d1, d2, d3, d4] }
  | _ => none }
def drawBoundsRow : OpenClaim := { program := "ytngoidkconngmaadoor", sum := "cb8222ff8330d3b383f7faf0713ee1e162fcf56f5e30e8c344fa580b24fbf7a6", func := "alembic/alembiclaw9.DrawBounds", spec := "drawBounds", named := ["alembic/api.ErrRange", "alembic/api.ErrShape", "alembic/api.ErrLength"], apart := false, laid := [("alembic/api.ErrRange", laid_alembic_api_ErrRange), ("alembic/api.ErrLength", laid_alembic_api_ErrLength), ("alembic/api.ErrShape", laid_alembic_api_ErrShape)] }
def DrawBoundsSaid : Prop := drawBoundsRow.holds Tryd.pinned (OpenSpec.ofChange drawBoundsSpec)

/-- ITS FALSE NEIGHBOUR: 'it returns false'. Refute it at one input. -/
def drawBoundsWrong : ChangeSpec := { name := "drawBounds", fn := fun _ => fun
  | [d1, d2, d3, d4] => { results := [.lit (.bool false)], args := [d1, d2, d3, d4] }
  | _ => none }
def DrawBoundsWrongFalsely : Prop := drawBoundsRow.holds Tryd.pinned (OpenSpec.ofChange drawBoundsWrong)

/-- 'alembiclaw11.WireKeys': WHATEVER THE INPUT: true; the input reads as it did. -/
def wireKeysSpec : ChangeSpec := { name := "wireKeys", fn := fun _ => fun
  | [d1, d2, d3, d4] => { results := [.lit (.bool true)], args := [d1, d2, d3, d4] }
  | _ => none }
def wireKeysRow : OpenClaim := { program := "ytngoidkconngmaadoor", sum := "cb8222ff8330d3b383f7faf0713ee1e162fcf56f5e30e8c344fa580b24fbf7a6", func := "alembic/alembiclaw11.WireKeys", spec := "wireKeys", unfollowed := true, recurses := true, named := ["alembic/api.ErrRange", "alembic/api.ErrLength", "alembic/api.ErrMany", "alembic/api.ErrShape", "alembic/api.ErrNone", "alembic/api.ErrOp", "alembic/api.ErrVar", "alembic/api.ErrSecret", "alembic/api.ErrLabel", "alembic/api.ErrFar", "alembic/api.ErrFuel", "alembic/api.ErrFault", "alembic/api.ErrWord", "alembic/api.ErrNumber"], apart := false, laid := [("alembic/api.ErrRange", laid_alembic_api_ErrRange), ("alembic/api.ErrLength", laid_alembic_api_ErrLength), ("alembic/api.ErrMany", laid_alembic_api_ErrMany), ("alembic/api.ErrShape", laid_alembic_api_ErrShape), ("alembic/api.ErrNone", laid_alembic_api_ErrNone), ("alembic/api.ErrOp", laid_alembic_api_ErrOp), ("alembic/api.ErrVar", laid_alembic_api_ErrVar), ("alembic/api.ErrSecret", laid_alembic_api_ErrSecret), ("alembic/api.ErrLabel", laid_alembic_api_ErrLabel), ("alembic/api.ErrFar", laid_alembic_api_ErrFar), ("alembic/api.ErrFuel", laid_alembic_api_ErrFuel), ("alembic/api.ErrFault", laid_alembic_api_ErrFault), ("alembic/api.ErrWord", laid_alembic_api_ErrWord), ("alembic/api.ErrNumber", laid_alembic_api_ErrNumber)] }
def WireKeysSaid : Prop := wireKeysRow.holds Tryd.pinned (OpenSpec.ofChange wireKeysSpec)

/-- ITS FALSE NEIGHBOUR: 'it returns false'. Refute it at one input. -/
def wireKeysWrong : ChangeSpec := { name := "wireKeys", fn := fun _ => fun
  | [d1, d2, d3, d4] => { results := [.lit (.bool false)], args := [d1, d2, d3, d4] }
  | _ => none }
def WireKeysWrongFalsely : Prop := wireKeysRow.holds Tryd.pinned (OpenSpec.ofChange wireKeysWrong)

/-- 'alembiclaw11.WireBack': WHATEVER THE INPUT: true; the input reads as it did. -/
def wireBackSpec : ChangeSpec := { name := "wireBack", fn := fun _ => fun
  | [d1, d2, d3] => { results := [.lit (.bool true)], args := [d1, d2, d3] }
  | _ => none }
def wireBackRow : OpenClaim := { program := "ytngoidkconngmaadoor", sum := "cb8222ff8330d3b383f7faf0713ee1e162fcf56f5e30e8c344fa580b24fbf7a6", func := "alembic/alembiclaw11.WireBack", spec := "wireBack", unfollowed := true, recurses := true, named := ["alembic/api.ErrRange", "alembic/api.ErrLength", "alembic/api.ErrMany", "alembic/api.ErrShape"], apart := false, laid := [("alembic/api.ErrRange", laid_alembic_api_ErrRange), ("alembic/api.ErrLength", laid_alembic_api_ErrLength), ("alembic/api.ErrMany", laid_alembic_api_ErrMany), ("alembic/api.ErrShape", laid_alembic_api_ErrShape)] }
def WireBackSaid : Prop := wireBackRow.holds Tryd.pinned (OpenSpec.ofChange wireBackSpec)

/-- ITS FALSE NEIGHBOUR: 'it returns false'. Refute it at one input. -/
def wireBackWrong : ChangeSpec := { name := "wireBack", fn := fun _ => fun
  | [d1, d2, d3] => { results := [.lit (.bool false)], args := [d1, d2, d3] }
  | _ => none }
def WireBackWrongFalsely : Prop := wireBackRow.holds Tryd.pinned (OpenSpec.ofChange wireBackWrong)

/- THE SECOND FORM. 'bulk': how many values and letters a reading holds, each counted each time it is reached (what is shared counts as often as it is met; a slice's spare places count too). A statement '..UptoSaid' is the law's where the arguments, and the package variables that the reading takes, are together of bulk at most 1048576: NARROWER than '..Said'. Prove '..Said' where nothing that the law and all that it calls make is longer than what came in: it says more and counts as full. Else prove '..UptoSaid'. A law counts once. -/
mutual
def uptoBulk {H : Type} : DataW H → Nat
  | .lit (.string bytes) => bytes.length + 1
  | .lit _ => 1
  | .nil => 1
  | .ptr d => uptoBulk d + 1
  | .slice elems spare => uptoBulkAll elems + uptoBulkAll spare + 1
  | .agg parts => uptoBulkAll parts + 1
  | .iface _ d => uptoBulk d + 1
  | .map entries => uptoBulkEntries entries + 1
  | .held _ => 1
def uptoBulkAll {H : Type} : List (DataW H) → Nat
  | [] => 0
  | d :: r => uptoBulk d + uptoBulkAll r
def uptoBulkEntries {H : Type} : List (Lit × DataW H) → Nat
  | [] => 0
  | x :: r => uptoBulkEntry x + uptoBulkEntries r
def uptoBulkEntry {H : Type} : Lit × DataW H → Nat
  | (.string bytes, d) => bytes.length + uptoBulk d + 1
  | (_, d) => uptoBulk d + 1
 end
def uptoSmall : (H : Type) → List (DataW H) → Bool := fun _ ds => decide (uptoBulkAll ds ≤ 1048576)
def OpenSpec.upto (s : _root_.Go.ChangeSpec) : _root_.Go.OpenSpec := { _root_.Go.OpenSpec.ofChange s with cond := some uptoSmall }

/-- 'alembiclaw9.DrawUniform', WHERE WHAT IT READS IS OF BULK AT MOST 1048576: true; the input reads as it did. -/
def drawUniformUptoRow : OpenClaim := { program := "ytngoidkconngmaadoor", sum := "cb8222ff8330d3b383f7faf0713ee1e162fcf56f5e30e8c344fa580b24fbf7a6", func := "alembic/alembiclaw9.DrawUniform", spec := "drawUniform", named := ["alembic/api.ErrRange", "alembic/api.ErrShape"], apart := false, laid := [("alembic/api.ErrRange", laid_alembic_api_ErrRange), ("alembic/api.ErrShape", laid_alembic_api_ErrShape)], narrowed := true }
def DrawUniformUptoSaid : Prop := drawUniformUptoRow.holds Tryd.pinned (OpenSpec.upto drawUniformSpec)

/-- 'alembiclaw9.DrawRow', WHERE WHAT IT READS IS OF BULK AT MOST 1048576: true; the input reads as it did. -/
def drawRowUptoRow : OpenClaim := { program := "ytngoidkconngmaadoor", sum := "cb8222ff8330d3b383f7faf0713ee1e162fcf56f5e30e8c344fa580b24fbf7a6", func := "alembic/alembiclaw9.DrawRow", spec := "drawRow", named := ["alembic/api.ErrRange", "alembic/api.ErrShape"], apart := false, laid := [("alembic/api.ErrRange", laid_alembic_api_ErrRange), ("alembic/api.ErrShape", laid_alembic_api_ErrShape)], narrowed := true }
def DrawRowUptoSaid : Prop := drawRowUptoRow.holds Tryd.pinned (OpenSpec.upto drawRowSpec)

/-- 'alembiclaw14.SecFlows', WHERE WHAT IT READS IS OF BULK AT MOST 1048576: true; the input reads as it did. -/
def secFlowsUptoRow : OpenClaim := { program := "ytngoidkconngmaadoor", sum := "cb8222ff8330d3b383f7faf0713ee1e162fcf56f5e30e8c344fa580b24fbf7a6", func := "alembic/alembiclaw14.SecFlows", spec := "secFlows", unfollowed := true, recurses := true, named := ["alembic/api.ErrSecret", "alembic/api.ErrMany", "alembic/api.ErrRange", "alembic/api.ErrOp", "alembic/api.ErrVar", "alembic/api.ErrShape", "alembic/api.ErrLength", "alembic/api.ErrNone", "alembic/api.ErrLabel", "alembic/api.ErrFar", "alembic/api.ErrFuel", "alembic/api.ErrFault", "alembic/api.ErrWord", "alembic/api.ErrNumber"], apart := false, laid := [("alembic/api.ErrRange", laid_alembic_api_ErrRange), ("alembic/api.ErrLength", laid_alembic_api_ErrLength), ("alembic/api.ErrMany", laid_alembic_api_ErrMany), ("alembic/api.ErrShape", laid_alembic_api_ErrShape), ("alembic/api.ErrNone", laid_alembic_api_ErrNone), ("alembic/api.ErrOp", laid_alembic_api_ErrOp), ("alembic/api.ErrVar", laid_alembic_api_ErrVar), ("alembic/api.ErrSecret", laid_alembic_api_ErrSecret), ("alembic/api.ErrLabel", laid_alembic_api_ErrLabel), ("alembic/api.ErrFar", laid_alembic_api_ErrFar), ("alembic/api.ErrFuel", laid_alembic_api_ErrFuel), ("alembic/api.ErrFault", laid_alembic_api_ErrFault), ("alembic/api.ErrWord", laid_alembic_api_ErrWord), ("alembic/api.ErrNumber", laid_alembic_api_ErrNumber)], narrowed := true }
def SecFlowsUptoSaid : Prop := secFlowsUptoRow.holds Tryd.pinned (OpenSpec.upto secFlowsSpec)

/-- 'alembiclaw9.DrawCentered', WHERE WHAT IT READS IS OF BULK AT MOST 1048576: true; the input reads as it did. -/
def drawCenteredUptoRow : OpenClaim := { program := "ytngoidkconngmaadoor", sum := "cb8222ff8330d3b383f7faf0713ee1e162fcf56f5e30e8c344fa580b24fbf7a6", func := "alembic/alembiclaw9.DrawCentered", spec := "drawCentered", unfollowed := true, recurses := true, named := ["alembic/api.ErrRange", "alembic/api.ErrShape", "alembic/api.ErrLength", "alembic/api.ErrMany", "alembic/api.ErrNone", "alembic/api.ErrOp", "alembic/api.ErrVar", "alembic/api.ErrSecret", "alembic/api.ErrLabel", "alembic/api.ErrFar", "alembic/api.ErrFuel", "alembic/api.ErrFault", "alembic/api.ErrWord", "alembic/api.ErrNumber"], apart := false, laid := [("alembic/api.ErrRange", laid_alembic_api_ErrRange), ("alembic/api.ErrLength", laid_alembic_api_ErrLength), ("alembic/api.ErrMany", laid_alembic_api_ErrMany), ("alembic/api.ErrShape", laid_alembic_api_ErrShape), ("alembic/api.ErrNone", laid_alembic_api_ErrNone), ("alembic/api.ErrOp", laid_alembic_api_ErrOp), ("alembic/api.ErrVar", laid_alembic_api_ErrVar), ("alembic/api.ErrSecret", laid_alembic_api_ErrSecret), ("alembic/api.ErrLabel", laid_alembic_api_ErrLabel), ("alembic/api.ErrFar", laid_alembic_api_ErrFar), ("alembic/api.ErrFuel", laid_alembic_api_ErrFuel), ("alembic/api.ErrFault", laid_alembic_api_ErrFault), ("alembic/api.ErrWord", laid_alembic_api_ErrWord), ("alembic/api.ErrNumber", laid_alembic_api_ErrNumber)], narrowed := true }
def DrawCenteredUptoSaid : Prop := drawCenteredUptoRow.holds Tryd.pinned (OpenSpec.upto drawCenteredSpec)

/-- 'alembiclaw14.SecSays', WHERE WHAT IT READS IS OF BULK AT MOST 1048576: true; the input reads as it did. -/
def secSaysUptoRow : OpenClaim := { program := "ytngoidkconngmaadoor", sum := "cb8222ff8330d3b383f7faf0713ee1e162fcf56f5e30e8c344fa580b24fbf7a6", func := "alembic/alembiclaw14.SecSays", spec := "secSays", unfollowed := true, recurses := true, named := ["alembic/api.ErrSecret", "alembic/api.ErrMany", "alembic/api.ErrRange", "alembic/api.ErrOp", "alembic/api.ErrVar", "alembic/api.ErrShape", "alembic/api.ErrLength", "alembic/api.ErrNone", "alembic/api.ErrLabel", "alembic/api.ErrFar", "alembic/api.ErrFuel", "alembic/api.ErrFault", "alembic/api.ErrWord", "alembic/api.ErrNumber"], loops := true, apart := false, laid := [("alembic/api.ErrRange", laid_alembic_api_ErrRange), ("alembic/api.ErrLength", laid_alembic_api_ErrLength), ("alembic/api.ErrMany", laid_alembic_api_ErrMany), ("alembic/api.ErrShape", laid_alembic_api_ErrShape), ("alembic/api.ErrNone", laid_alembic_api_ErrNone), ("alembic/api.ErrOp", laid_alembic_api_ErrOp), ("alembic/api.ErrVar", laid_alembic_api_ErrVar), ("alembic/api.ErrSecret", laid_alembic_api_ErrSecret), ("alembic/api.ErrLabel", laid_alembic_api_ErrLabel), ("alembic/api.ErrFar", laid_alembic_api_ErrFar), ("alembic/api.ErrFuel", laid_alembic_api_ErrFuel), ("alembic/api.ErrFault", laid_alembic_api_ErrFault), ("alembic/api.ErrWord", laid_alembic_api_ErrWord), ("alembic/api.ErrNumber", laid_alembic_api_ErrNumber)], narrowed := true }
def SecSaysUptoSaid : Prop := secSaysUptoRow.holds Tryd.pinned (OpenSpec.upto secSaysSpec)

/-- 'alembiclaw14.SecRaised', WHERE WHAT IT READS IS OF BULK AT MOST 1048576: true; the input reads as it did. -/
def secRaisedUptoRow : OpenClaim := { program := "ytngoidkconngmaadoor", sum := "cb8222ff8330d3b383f7faf0713ee1e162fcf56f5e30e8c344fa580b24fbf7a6", func := "alembic/alembiclaw14.SecRaised", spec := "secRaised", unfollowed := true, recurses := true, named := ["alembic/api.ErrSecret", "alembic/api.ErrMany", "alembic/api.ErrRange", "alembic/api.ErrOp", "alembic/api.ErrVar", "alembic/api.ErrShape"], loops := true, apart := false, laid := [("alembic/api.ErrRange", laid_alembic_api_ErrRange), ("alembic/api.ErrMany", laid_alembic_api_ErrMany), ("alembic/api.ErrShape", laid_alembic_api_ErrShape), ("alembic/api.ErrOp", laid_alembic_api_ErrOp), ("alembic/api.ErrVar", laid_alembic_api_ErrVar), ("alembic/api.ErrSecret", laid_alembic_api_ErrSecret)], narrowed := true }
def SecRaisedUptoSaid : Prop := secRaisedUptoRow.holds Tryd.pinned (OpenSpec.upto secRaisedSpec)

/-- 'alembiclaw11.WireHints', WHERE WHAT IT READS IS OF BULK AT MOST 1048576: true; the input reads as it did. -/
def wireHintsUptoRow : OpenClaim := { program := "ytngoidkconngmaadoor", sum := "cb8222ff8330d3b383f7faf0713ee1e162fcf56f5e30e8c344fa580b24fbf7a6", func := "alembic/alembiclaw11.WireHints", spec := "wireHints", unfollowed := true, recurses := true, named := ["alembic/api.ErrRange", "alembic/api.ErrLength", "alembic/api.ErrMany", "alembic/api.ErrShape", "alembic/api.ErrNone", "alembic/api.ErrOp", "alembic/api.ErrVar", "alembic/api.ErrSecret", "alembic/api.ErrLabel", "alembic/api.ErrFar", "alembic/api.ErrFuel", "alembic/api.ErrFault", "alembic/api.ErrWord", "alembic/api.ErrNumber"], apart := false, laid := [("alembic/api.ErrRange", laid_alembic_api_ErrRange), ("alembic/api.ErrLength", laid_alembic_api_ErrLength), ("alembic/api.ErrMany", laid_alembic_api_ErrMany), ("alembic/api.ErrShape", laid_alembic_api_ErrShape), ("alembic/api.ErrNone", laid_alembic_api_ErrNone), ("alembic/api.ErrOp", laid_alembic_api_ErrOp), ("alembic/api.ErrVar", laid_alembic_api_ErrVar), ("alembic/api.ErrSecret", laid_alembic_api_ErrSecret), ("alembic/api.ErrLabel", laid_alembic_api_ErrLabel), ("alembic/api.ErrFar", laid_alembic_api_ErrFar), ("alembic/api.ErrFuel", laid_alembic_api_ErrFuel), ("alembic/api.ErrFault", laid_alembic_api_ErrFault), ("alembic/api.ErrWord", laid_alembic_api_ErrWord), ("alembic/api.ErrNumber", laid_alembic_api_ErrNumber)], narrowed := true }
def WireHintsUptoSaid : Prop := wireHintsUptoRow.holds Tryd.pinned (OpenSpec.upto wireHintsSpec)

/-- 'alembiclaw9.DrawSmall', WHERE WHAT IT READS IS OF BULK AT MOST 1048576: true; the input reads as it did. -/
def drawSmallUptoRow : OpenClaim := { program := "ytngoidkconngmaadoor", sum := "cb8222ff8330d3b383f7faf0713ee1e162fcf56f5e30e8c344fa580b24fbf7a6", func := "alembic/alembiclaw9.DrawSmall", spec := "drawSmall", named := ["alembic/api.ErrRange", "alembic/api.ErrShape", "alembic/api.ErrLength", "alembic/api.ErrMany", "alembic/api.ErrNone", "alembic/api.ErrOp", "alembic/api.ErrVar", "alembic/api.ErrSecret", "alembic/api.ErrLabel", "alembic/api.ErrFar", "alembic/api.ErrFuel", "alembic/api.ErrFault", "alembic/api.ErrWord", "alembic/api.ErrNumber"], apart := false, laid := [("alembic/api.ErrRange", laid_alembic_api_ErrRange), ("alembic/api.ErrLength", laid_alembic_api_ErrLength), ("alembic/api.ErrMany", laid_alembic_api_ErrMany), ("alembic/api.ErrShape", laid_alembic_api_ErrShape), ("alembic/api.ErrNone", laid_alembic_api_ErrNone), ("alembic/api.ErrOp", laid_alembic_api_ErrOp), ("alembic/api.ErrVar", laid_alembic_api_ErrVar), ("alembic/api.ErrSecret", laid_alembic_api_ErrSecret), ("alembic/api.ErrLabel", laid_alembic_api_ErrLabel), ("alembic/api.ErrFar", laid_alembic_api_ErrFar), ("alembic/api.ErrFuel", laid_alembic_api_ErrFuel), ("alembic/api.ErrFault", laid_alembic_api_ErrFault), ("alembic/api.ErrWord", laid_alembic_api_ErrWord), ("alembic/api.ErrNumber", laid_alembic_api_ErrNumber)], narrowed := true }
def DrawSmallUptoSaid : Prop := drawSmallUptoRow.holds Tryd.pinned (OpenSpec.upto drawSmallSpec)

/-- 'alembiclaw11.WireSigs', WHERE WHAT IT READS IS OF BULK AT MOST 1048576: true; the input reads as it did. -/
def wireSigsUptoRow : OpenClaim := { program := "ytngoidkconngmaadoor", sum := "cb8222ff8330d3b383f7faf0713ee1e162fcf56f5e30e8c344fa580b24fbf7a6", func := "alembic/alembiclaw11.WireSigs", spec := "wireSigs", unfollowed := true, recurses := true, named := ["alembic/api.ErrRange", "alembic/api.ErrLength", "alembic/api.ErrMany", "alembic/api.ErrShape", "alembic/api.ErrNone", "alembic/api.ErrOp", "alembic/api.ErrVar", "alembic/api.ErrSecret", "alembic/api.ErrLabel", "alembic/api.ErrFar", "alembic/api.ErrFuel", "alembic/api.ErrFault", "alembic/api.ErrWord", "alembic/api.ErrNumber"], apart := false, laid := [("alembic/api.ErrRange", laid_alembic_api_ErrRange), ("alembic/api.ErrLength", laid_alembic_api_ErrLength), ("alembic/api.ErrMany", laid_alembic_api_ErrMany), ("alembic/api.ErrShape", laid_alembic_api_ErrShape), ("alembic/api.ErrNone", laid_alembic_api_ErrNone), ("alembic/api.ErrOp", laid_alembic_api_ErrOp), ("alembic/api.ErrVar", laid_alembic_api_ErrVar), ("alembic/api.ErrSecret", laid_alembic_api_ErrSecret), ("alembic/api.ErrLabel", laid_alembic_api_ErrLabel), ("alembic/api.ErrFar", laid_alembic_api_ErrFar), ("alembic/api.ErrFuel", laid_alembic_api_ErrFuel), ("alembic/api.ErrFault", laid_alembic_api_ErrFault), ("alembic/api.ErrWord", laid_alembic_api_ErrWord), ("alembic/api.ErrNumber", laid_alembic_api_ErrNumber)], narrowed := true }
def WireSigsUptoSaid : Prop := wireSigsUptoRow.holds Tryd.pinned (OpenSpec.upto wireSigsSpec)

/-- 'alembiclaw9.DrawBounds', WHERE WHAT IT READS IS OF BULK AT MOST 1048576: true; the input reads as it did. -/
def drawBoundsUptoRow : OpenClaim := { program := "ytngoidkconngmaadoor", sum := "cb8222ff8330d3b383f7faf0713ee1e162fcf56f5e30e8c344fa580b24fbf7a6", func := "alembic/alembiclaw9.DrawBounds", spec := "drawBounds", named := ["alembic/api.ErrRange", "alembic/api.ErrShape", "alembic/api.ErrLength"], apart := false, laid := [("alembic/api.ErrRange", laid_alembic_api_ErrRange), ("alembic/api.ErrLength", laid_alembic_api_ErrLength), ("alembic/api.ErrShape", laid_alembic_api_ErrShape)], narrowed := true }
def DrawBoundsUptoSaid : Prop := drawBoundsUptoRow.holds Tryd.pinned (OpenSpec.upto drawBoundsSpec)

/-- 'alembiclaw11.WireKeys', WHERE WHAT IT READS IS OF BULK AT MOST 1048576: true; the input reads as it did. -/
def wireKeysUptoRow : OpenClaim := { program := "ytngoidkconngmaadoor", sum := "cb8222ff8330d3b383f7faf0713ee1e162fcf56f5e30e8c344fa580b24fbf7a6", func := "alembic/alembiclaw11.WireKeys", spec := "wireKeys", unfollowed := true, recurses := true, named := ["alembic/api.ErrRange", "alembic/api.ErrLength", "alembic/api.ErrMany", "alembic/api.ErrShape", "alembic/api.ErrNone", "alembic/api.ErrOp", "alembic/api.ErrVar", "alembic/api.ErrSecret", "alembic/api.ErrLabel", "alembic/api.ErrFar", "alembic/api.ErrFuel", "alembic/api.ErrFault", "alembic/api.ErrWord", "alembic/api.ErrNumber"], apart := false, laid := [("alembic/api.ErrRange", laid_alembic_api_ErrRange), ("alembic/api.ErrLength", laid_alembic_api_ErrLength), ("alembic/api.ErrMany", laid_alembic_api_ErrMany), ("alembic/api.ErrShape", laid_alembic_api_ErrShape), ("alembic/api.ErrNone", laid_alembic_api_ErrNone), ("alembic/api.ErrOp", laid_alembic_api_ErrOp), ("alembic/api.ErrVar", laid_alembic_api_ErrVar), ("alembic/api.ErrSecret", laid_alembic_api_ErrSecret), ("alembic/api.ErrLabel", laid_alembic_api_ErrLabel), ("alembic/api.ErrFar", laid_alembic_api_ErrFar), ("alembic/api.ErrFuel", laid_alembic_api_ErrFuel), ("alembic/api.ErrFault", laid_alembic_api_ErrFault), ("alembic/api.ErrWord", laid_alembic_api_ErrWord), ("alembic/api.ErrNumber", laid_alembic_api_ErrNumber)], narrowed := true }
def WireKeysUptoSaid : Prop := wireKeysUptoRow.holds Tryd.pinned (OpenSpec.upto wireKeysSpec)

/-- 'alembiclaw11.WireBack', WHERE WHAT IT READS IS OF BULK AT MOST 1048576: true; the input reads as it did. -/
def wireBackUptoRow : OpenClaim := { program := "ytngoidkconngmaadoor", sum := "cb8222ff8330d3b383f7faf0713ee1e162fcf56f5e30e8c344fa580b24fbf7a6", func := "alembic/alembiclaw11.WireBack", spec := "wireBack", unfollowed := true, recurses := true, named := ["alembic/api.ErrRange", "alembic/api.ErrLength", "alembic/api.ErrMany", "alembic/api.ErrShape"], apart := false, laid := [("alembic/api.ErrRange", laid_alembic_api_ErrRange), ("alembic/api.ErrLength", laid_alembic_api_ErrLength), ("alembic/api.ErrMany", laid_alembic_api_ErrMany), ("alembic/api.ErrShape", laid_alembic_api_ErrShape)], narrowed := true }
def WireBackUptoSaid : Prop := wireBackUptoRow.holds Tryd.pinned (OpenSpec.upto wireBackSpec)

end Rows
end Go.Proofs.YtngoidkconngmaaDoor
