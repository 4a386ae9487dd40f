/-
  NARROWER THAN 'FOR EVERY INPUT', by the rows' own cells (each row's printed sentence says how): KemKeys: laid · KemEncaps: laid · KemDecaps: laid · KemBent: laid.
  DERIVED. THE GIVEN ROWS OF THIS SEAT. 4 by the template 'for every input the law returns true; each argument reads behind the call as it read before'; 0 by the template 'total and deterministic' (their statements: YtjnomoefbffpoaaGreatDoorTotals.lean).
  GIVEN WITH THE SEED: the statements are not yours to turn. If you find one false, say at which input.
  Laid BY PROGRAM, IN A SANDBOX (cutbox-rows.mjs): the forced cells as the released guide's own fill.sh prints them over the translation 204b4eb599eeb2a5… (all of the seat's roots in one cut). By AI agents, Wed Nov 11 2026. No macro, syntax, notation, axiom, sorry.
-/
import Derived.Test.YtjnomoefbffpoaaGreatDoorChecked
import GoSem.Claim
import GoSem.ClaimJoined
import GoSem.ClaimMapViews
import Derived.JoinedTies
import Derived.KernelRfl
namespace Go.Proofs.YtjnomoefbffpoaaGreatDoor
/- THE CELL 'sum', in the pinned program and in every row, IS THE sha256 OF THE DUMP (.gsa) THAT YtjnomoefbffpoaaGreatDoorProg.lean LOADS. Nothing in Lean hashes anything: it is a label: what it is worth is what the hold of that sum in a sandbox is worth. -/
noncomputable def Tryz.pinned : Pinned := { name := "ytjnomoefbffpoaagreatdoor", sum := "204b4eb599eeb2a54755669cd50cc0e28a8986486e5b7b6ba2ec5d96811106b2", checked := Tryz.checked }
namespace Rows
def none {H : Type} : Left H := { results := [], args := [] }

/- WHAT THE LISTED PACKAGE-LEVEL VARIABLES READ AS WHEN THE CALL BEGINS. Each datum BY PROGRAM (the guide's laid-datum.mjs) off the statement by which the dump's own 'gosem.cut.vars' lays the variable. In a bare row this is a premise. The card (YtjnomoefbffpoaaGreatDoorCards.lean) ties it to the program's text. -/
def laid_alembic_api_ErrRange {H : Type} : DataW H := .iface "*errors.errorString" (.ptr (.agg [.lit (.string [97, 32, 110, 117, 109, 98, 101, 114, 32, 111, 117, 116, 32, 111, 102, 32, 105, 116, 115, 32, 114, 97, 110, 103, 101])]))
def laid_alembic_api_ErrLength {H : Type} : DataW H := .iface "*errors.errorString" (.ptr (.agg [.lit (.string [110, 111, 116, 32, 97, 115, 32, 108, 111, 110, 103, 32, 97, 115, 32, 105, 116, 32, 104, 97, 115, 32, 116, 111, 32, 98, 101])]))
def laid_alembic_api_ErrMany {H : Type} : DataW H := .iface "*errors.errorString" (.ptr (.agg [.lit (.string [116, 111, 111, 32, 109, 97, 110, 121])]))
def laid_alembic_api_ErrShape {H : Type} : DataW H := .iface "*errors.errorString" (.ptr (.agg [.lit (.string [110, 111, 116, 32, 97, 115, 32, 105, 116, 32, 104, 97, 115, 32, 116, 111, 32, 98, 101])]))
def laid_alembic_api_ErrNone {H : Type} : DataW H := .iface "*errors.errorString" (.ptr (.agg [.lit (.string [116, 104, 101, 114, 101, 32, 105, 115, 32, 110, 111, 110, 101])]))
def laid_alembic_api_ErrOp {H : Type} : DataW H := .iface "*errors.errorString" (.ptr (.agg [.lit (.string [110, 111, 32, 115, 117, 99, 104, 32, 116, 104, 105, 110, 103, 32, 116, 111, 32, 100, 111])]))
def laid_alembic_api_ErrVar {H : Type} : DataW H := .iface "*errors.errorString" (.ptr (.agg [.lit (.string [110, 111, 32, 115, 117, 99, 104, 32, 118, 97, 114, 105, 97, 98, 108, 101])]))
def laid_alembic_api_ErrSecret {H : Type} : DataW H := .iface "*errors.errorString" (.ptr (.agg [.lit (.string [97, 32, 115, 101, 99, 114, 101, 116, 32, 119, 104, 101, 114, 101, 32, 105, 116, 32, 109, 97, 121, 32, 110, 111, 116, 32, 98, 101])]))
def laid_alembic_api_ErrLabel {H : Type} : DataW H := .iface "*errors.errorString" (.ptr (.agg [.lit (.string [110, 111, 32, 115, 117, 99, 104, 32, 112, 108, 97, 99, 101])]))
def laid_alembic_api_ErrFar {H : Type} : DataW H := .iface "*errors.errorString" (.ptr (.agg [.lit (.string [116, 111, 111, 32, 102, 97, 114])]))
def laid_alembic_api_ErrFuel {H : Type} : DataW H := .iface "*errors.errorString" (.ptr (.agg [.lit (.string [105, 116, 32, 116, 97, 107, 101, 115, 32, 116, 111, 111, 32, 108, 111, 110, 103])]))
def laid_alembic_api_ErrFault {H : Type} : DataW H := .iface "*errors.errorString" (.ptr (.agg [.lit (.string [119, 104, 101, 114, 101, 32, 116, 104, 101, 114, 101, 32, 105, 115, 32, 110, 111, 116, 104, 105, 110, 103])]))
def laid_alembic_api_ErrWord {H : Type} : DataW H := .iface "*errors.errorString" (.ptr (.agg [.lit (.string [110, 111, 32, 115, 117, 99, 104, 32, 119, 111, 114, 100])]))
def laid_alembic_api_ErrNumber {H : Type} : DataW H := .iface "*errors.errorString" (.ptr (.agg [.lit (.string [110, 111, 116, 32, 97, 32, 110, 117, 109, 98, 101, 114])]))

/-- 'alembiclaw10.KemKeys': WHATEVER THE INPUT: true; the input reads as it did. -/
def kemKeysSpec : ChangeSpec := { name := "kemKeys", fn := fun _ => fun
  | [d1, d2, d3] => { results := [.lit (.bool true)], args := [d1, d2, d3] }
  | _ => none }
def kemKeysRow : OpenClaim := { program := "ytjnomoefbffpoaagreatdoor", sum := "204b4eb599eeb2a54755669cd50cc0e28a8986486e5b7b6ba2ec5d96811106b2", func := "alembic/alembiclaw10.KemKeys", spec := "kemKeys", unfollowed := true, recurses := true, named := ["alembic/api.ErrRange", "alembic/api.ErrLength", "alembic/api.ErrShape", "alembic/api.ErrMany", "alembic/api.ErrNone", "alembic/api.ErrOp", "alembic/api.ErrVar", "alembic/api.ErrSecret", "alembic/api.ErrLabel", "alembic/api.ErrFar", "alembic/api.ErrFuel", "alembic/api.ErrFault", "alembic/api.ErrWord", "alembic/api.ErrNumber"], apart := false, laid := [("alembic/api.ErrRange", laid_alembic_api_ErrRange), ("alembic/api.ErrLength", laid_alembic_api_ErrLength), ("alembic/api.ErrMany", laid_alembic_api_ErrMany), ("alembic/api.ErrShape", laid_alembic_api_ErrShape), ("alembic/api.ErrNone", laid_alembic_api_ErrNone), ("alembic/api.ErrOp", laid_alembic_api_ErrOp), ("alembic/api.ErrVar", laid_alembic_api_ErrVar), ("alembic/api.ErrSecret", laid_alembic_api_ErrSecret), ("alembic/api.ErrLabel", laid_alembic_api_ErrLabel), ("alembic/api.ErrFar", laid_alembic_api_ErrFar), ("alembic/api.ErrFuel", laid_alembic_api_ErrFuel), ("alembic/api.ErrFault", laid_alembic_api_ErrFault), ("alembic/api.ErrWord", laid_alembic_api_ErrWord), ("alembic/api.ErrNumber", laid_alembic_api_ErrNumber)] }
def KemKeysSaid : Prop := kemKeysRow.holds Tryz.pinned (OpenSpec.ofChange kemKeysSpec)

/-- ITS FALSE NEIGHBOUR: 'it returns false'. Refute it at one input. -/
def kemKeysWrong : ChangeSpec := { name := "kemKeys", fn := fun _ => fun
  | [d1, d2, d3] => { results := [.lit (.bool false)], args := [d1, d2, d3] }
  | _ => none }
def KemKeysWrongFalsely : Prop := kemKeysRow.holds Tryz.pinned (OpenSpec.ofChange kemKeysWrong)

/-- 'alembiclaw10.KemEncaps': WHATEVER THE INPUT: true; the input reads as it did. -/
def kemEncapsSpec : ChangeSpec := { name := "kemEncaps", fn := fun _ => fun
  | [d1, d2, d3, d4, d5, d6, d7] => { results := [.lit (.bool true)], args := [d1, d2, d3, d4, d5, d6, d7] }
  | _ => none }
def kemEncapsRow : OpenClaim := { program := "ytjnomoefbffpoaagreatdoor", sum := "204b4eb599eeb2a54755669cd50cc0e28a8986486e5b7b6ba2ec5d96811106b2", func := "alembic/alembiclaw10.KemEncaps", spec := "kemEncaps", unfollowed := true, recurses := true, named := ["alembic/api.ErrRange", "alembic/api.ErrLength", "alembic/api.ErrShape", "alembic/api.ErrMany", "alembic/api.ErrNone", "alembic/api.ErrOp", "alembic/api.ErrVar", "alembic/api.ErrSecret", "alembic/api.ErrLabel", "alembic/api.ErrFar", "alembic/api.ErrFuel", "alembic/api.ErrFault", "alembic/api.ErrWord", "alembic/api.ErrNumber"], apart := false, laid := [("alembic/api.ErrRange", laid_alembic_api_ErrRange), ("alembic/api.ErrLength", laid_alembic_api_ErrLength), ("alembic/api.ErrMany", laid_alembic_api_ErrMany), ("alembic/api.ErrShape", laid_alembic_api_ErrShape), ("alembic/api.ErrNone", laid_alembic_api_ErrNone), ("alembic/api.ErrOp", laid_alembic_api_ErrOp), ("alembic/api.ErrVar", laid_alembic_api_ErrVar), ("alembic/api.ErrSecret", laid_alembic_api_ErrSecret), ("alembic/api.ErrLabel", laid_alembic_api_ErrLabel), ("alembic/api.ErrFar", laid_alembic_api_ErrFar), ("alembic/api.ErrFuel", laid_alembic_api_ErrFuel), ("alembic/api.ErrFault", laid_alembic_api_ErrFault), ("alembic/api.ErrWord", laid_alembic_api_ErrWord), ("alembic/api.ErrNumber", laid_alembic_api_ErrNumber)] }
def KemEncapsSaid : Prop := kemEncapsRow.holds Tryz.pinned (OpenSpec.ofChange kemEncapsSpec)

/-- ITS FALSE NEIGHBOUR: 'it returns false'. Refute it at one input. -/
def kemEncapsWrong : ChangeSpec := { name := "kemEncaps", fn := fun _ => fun
  | [d1, d2, d3, d4, d5, d6, d7] => { results := [.lit (.bool false)], args := [d1, d2, d3, d4, d5, d6, d7] }
  | _ => none }
def KemEncapsWrongFalsely : Prop := kemEncapsRow.holds Tryz.pinned (OpenSpec.ofChange kemEncapsWrong)

/-- 'alembiclaw10.KemDecaps': WHATEVER THE INPUT: true; the input reads as it did. -/
def kemDecapsSpec : ChangeSpec := { name := "kemDecaps", fn := fun _ => fun
  | [d1, d2, d3, d4, d5, d6, d7, d8] => { results := [.lit (.bool true)], args := [d1, d2, d3, d4, d5, d6, d7, d8] }
  | _ => none }
def kemDecapsRow : OpenClaim := { program := "ytjnomoefbffpoaagreatdoor", sum := "204b4eb599eeb2a54755669cd50cc0e28a8986486e5b7b6ba2ec5d96811106b2", func := "alembic/alembiclaw10.KemDecaps", spec := "kemDecaps", unfollowed := true, recurses := true, named := ["alembic/api.ErrRange", "alembic/api.ErrLength", "alembic/api.ErrShape", "alembic/api.ErrMany", "alembic/api.ErrNone", "alembic/api.ErrOp", "alembic/api.ErrVar", "alembic/api.ErrSecret", "alembic/api.ErrLabel", "alembic/api.ErrFar", "alembic/api.ErrFuel", "alembic/api.ErrFault", "alembic/api.ErrWord", "alembic/api.ErrNumber"], apart := false, laid := [("alembic/api.ErrRange", laid_alembic_api_ErrRange), ("alembic/api.ErrLength", laid_alembic_api_ErrLength), ("alembic/api.ErrMany", laid_alembic_api_ErrMany), ("alembic/api.ErrShape", laid_alembic_api_ErrShape), ("alembic/api.ErrNone", laid_alembic_api_ErrNone), ("alembic/api.ErrOp", laid_alembic_api_ErrOp), ("alembic/api.ErrVar", laid_alembic_api_ErrVar), ("alembic/api.ErrSecret", laid_alembic_api_ErrSecret), ("alembic/api.ErrLabel", laid_alembic_api_ErrLabel), ("alembic/api.ErrFar", laid_alembic_api_ErrFar), ("alembic/api.ErrFuel", laid_alembic_api_ErrFuel), ("alembic/api.ErrFault", laid_alembic_api_ErrFault), ("alembic/api.ErrWord", laid_alembic_api_ErrWord), ("alembic/api.ErrNumber", laid_alembic_api_ErrNumber)] }
def KemDecapsSaid : Prop := kemDecapsRow.holds Tryz.pinned (OpenSpec.ofChange kemDecapsSpec)

/-- ITS FALSE NEIGHBOUR: 'it returns false'. Refute it at one input. -/
def kemDecapsWrong : ChangeSpec := { name := "kemDecaps", fn := fun _ => fun
  | [d1, d2, d3, d4, d5, d6, d7, d8] => { results := [.lit (.bool false)], args := [d1, d2, d3, d4, d5, d6, d7, d8] }
  | _ => none }
def KemDecapsWrongFalsely : Prop := kemDecapsRow.holds Tryz.pinned (OpenSpec.ofChange kemDecapsWrong)

/-- 'alembiclaw10.KemBent': WHATEVER THE INPUT: true; the input reads as it did. -/
def kemBentSpec : ChangeSpec := { name := "kemBent", fn := fun _ => fun
  | [d1, d2, d3, d4] => { results := [.lit (.bool true)], args := [d1, d2, d3, d4] }
  | _ => none }
def kemBentRow : OpenClaim := { program := "ytjnomoefbffpoaagreatdoor", sum := "204b4eb599eeb2a54755669cd50cc0e28a8986486e5b7b6ba2ec5d96811106b2", func := "alembic/alembiclaw10.KemBent", spec := "kemBent", unfollowed := true, recurses := true, named := ["alembic/api.ErrRange", "alembic/api.ErrLength", "alembic/api.ErrShape", "alembic/api.ErrMany", "alembic/api.ErrNone", "alembic/api.ErrOp", "alembic/api.ErrVar", "alembic/api.ErrSecret", "alembic/api.ErrLabel", "alembic/api.ErrFar", "alembic/api.ErrFuel", "alembic/api.ErrFault", "alembic/api.ErrWord", "alembic/api.ErrNumber"], apart := false, laid := [("alembic/api.ErrRange", laid_alembic_api_ErrRange), ("alembic/api.ErrLength", laid_alembic_api_ErrLength), ("alembic/api.ErrMany", laid_alembic_api_ErrMany), ("alembic/api.ErrShape", laid_alembic_api_ErrShape), ("alembic/api.ErrNone", laid_alembic_api_ErrNone), ("alembic/api.ErrOp", laid_alembic_api_ErrOp), ("alembic/api.ErrVar", laid_alembic_api_ErrVar), ("alembic/api.ErrSecret", laid_alembic_api_ErrSecret), ("alembic/api.ErrLabel", laid_alembic_api_ErrLabel), ("alembic/api.ErrFar", laid_alembic_api_ErrFar), ("alembic/api.ErrFuel", laid_alembic_api_ErrFuel), ("alembic/api.ErrFault", laid_alembic_api_ErrFault), ("alembic/api.ErrWord", laid_alembic_api_ErrWord), ("alembic/api.ErrNumber", laid_alembic_api_ErrNumber)] }
def KemBentSaid : Prop := kemBentRow.holds Tryz.pinned (OpenSpec.ofChange kemBentSpec)

/-- ITS FALSE NEIGHBOUR: 'it returns false'. Refute it at one input. -/
def kemBentWrong : ChangeSpec := { name := "kemBent", fn := fun _ => fun
  | [d1, d2, d3, d4] => { results := [.lit (.bool false)], args := [d1, d2, d3, d4] }
  | _ => none }
def KemBentWrongFalsely : Prop := kemBentRow.holds Tryz.pinned (OpenSpec.ofChange kemBentWrong)

/- THE SECOND FORM. 'bulk': how many values and letters a reading holds, each counted each time it is reached (what is shared counts as often as it is met; a slice's spare places count too). A statement '..UptoSaid' is the law's where the arguments, and the package variables that the reading takes, are together of bulk at most 1048576: NARROWER than '..Said'. Prove '..Said' where nothing that the law and all that it calls make is longer than what came in: it says more and counts as full. Else prove '..UptoSaid'. A law counts once. -/
mutual
def uptoBulk {H : Type} : DataW H → Nat
  | .lit (.string bytes) => bytes.length + 1
  | .lit _ => 1
  | .nil => 1
  | .ptr d => uptoBulk d + 1
  | .slice elems spare => uptoBulkAll elems + uptoBulkAll spare + 1
  | .agg parts => uptoBulkAll parts + 1
  | .iface _ d => uptoBulk d + 1
  | .map entries => uptoBulkEntries entries + 1
  | .held _ => 1
def uptoBulkAll {H : Type} : List (DataW H) → Nat
  | [] => 0
  | d :: r => uptoBulk d + uptoBulkAll r
def uptoBulkEntries {H : Type} : List (Lit × DataW H) → Nat
  | [] => 0
  | x :: r => uptoBulkEntry x + uptoBulkEntries r
def uptoBulkEntry {H : Type} : Lit × DataW H → Nat
  | (.string bytes, d) => bytes.length + uptoBulk d + 1
  | (_, d) => uptoBulk d + 1
 end
def uptoSmall : (H : Type) → List (DataW H) → Bool := fun _ ds => decide (uptoBulkAll ds ≤ 1048576)
def OpenSpec.upto (s : _root_.Go.ChangeSpec) : _root_.Go.OpenSpec := { _root_.Go.OpenSpec.ofChange s with cond := some uptoSmall }

/-- 'alembiclaw10.KemKeys', WHERE WHAT IT READS IS OF BULK AT MOST 1048576: true; the input reads as it did. -/
def kemKeysUptoRow : OpenClaim := { program := "ytjnomoefbffpoaagreatdoor", sum := "204b4eb599eeb2a54755669cd50cc0e28a8986486e5b7b6ba2ec5d96811106b2", func := "alembic/alembiclaw10.KemKeys", spec := "kemKeys", unfollowed := true, recurses := true, named := ["alembic/api.ErrRange", "alembic/api.ErrLength", "alembic/api.ErrShape", "alembic/api.ErrMany", "alembic/api.ErrNone", "alembic/api.ErrOp", "alembic/api.ErrVar", "alembic/api.ErrSecret", "alembic/api.ErrLabel", "alembic/api.ErrFar", "alembic/api.ErrFuel", "alembic/api.ErrFault", "alembic/api.ErrWord", "alembic/api.ErrNumber"], apart := false, laid := [("alembic/api.ErrRange", laid_alembic_api_ErrRange), ("alembic/api.ErrLength", laid_alembic_api_ErrLength), ("alembic/api.ErrMany", laid_alembic_api_ErrMany), ("alembic/api.ErrShape", laid_alembic_api_ErrShape), ("alembic/api.ErrNone", laid_alembic_api_ErrNone), ("alembic/api.ErrOp", laid_alembic_api_ErrOp), ("alembic/api.ErrVar", laid_alembic_api_ErrVar), ("alembic/api.ErrSecret", laid_alembic_api_ErrSecret), ("alembic/api.ErrLabel", laid_alembic_api_ErrLabel), ("alembic/api.ErrFar", laid_alembic_api_ErrFar), ("alembic/api.ErrFuel", laid_alembic_api_ErrFuel), ("alembic/api.ErrFault", laid_alembic_api_ErrFault), ("alembic/api.ErrWord", laid_alembic_api_ErrWord), ("alembic/api.ErrNumber", laid_alembic_api_ErrNumber)], narrowed := true }
def KemKeysUptoSaid : Prop := kemKeysUptoRow.holds Tryz.pinned (OpenSpec.upto kemKeysSpec)

/-- 'alembiclaw10.KemEncaps', WHERE WHAT IT READS IS OF BULK AT MOST 1048576: true; the input reads as it did. -/
def kemEncapsUptoRow : OpenClaim := { program := "ytjnomoefbffpoaagreatdoor", sum := "204b4eb599eeb2a54755669cd50cc0e28a8986486e5b7b6ba2ec5d96811106b2", func := "alembic/alembiclaw10.KemEncaps", spec := "kemEncaps", unfollowed := true, recurses := true, named := ["alembic/api.ErrRange", "alembic/api.ErrLength", "alembic/api.ErrShape", "alembic/api.ErrMany", "alembic/api.ErrNone", "alembic/api.ErrOp", "alembic/api.ErrVar", "alembic/api.ErrSecret", "alembic/api.ErrLabel", "alembic/api.ErrFar", "alembic/api.ErrFuel", "alembic/api.ErrFault", "alembic/api.ErrWord", "alembic/api.ErrNumber"], apart := false, laid := [("alembic/api.ErrRange", laid_alembic_api_ErrRange), ("alembic/api.ErrLength", laid_alembic_api_ErrLength), ("alembic/api.ErrMany", laid_alembic_api_ErrMany), ("alembic/api.ErrShape", laid_alembic_api_ErrShape), ("alembic/api.ErrNone", laid_alembic_api_ErrNone), ("alembic/api.ErrOp", laid_alembic_api_ErrOp), ("alembic/api.ErrVar", laid_alembic_api_ErrVar), ("alembic/api.ErrSecret", laid_alembic_api_ErrSecret), ("alembic/api.ErrLabel", laid_alembic_api_ErrLabel), ("alembic/api.ErrFar", laid_alembic_api_ErrFar), ("alembic/api.ErrFuel", laid_alembic_api_ErrFuel), ("alembic/api.ErrFault", laid_alembic_api_ErrFault), ("alembic/api.ErrWord", laid_alembic_api_ErrWord), ("alembic/api.ErrNumber", laid_alembic_api_ErrNumber)], narrowed := true }
def KemEncapsUptoSaid : Prop := kemEncapsUptoRow.holds Tryz.pinned (OpenSpec.upto kemEncapsSpec)

/-- 'alembiclaw10.KemDecaps', WHERE WHAT IT READS IS OF BULK AT MOST 1048576: true; the input reads as it did. -/
def kemDecapsUptoRow : OpenClaim := { program := "ytjnomoefbffpoaagreatdoor", sum := "204b4eb599eeb2a54755669cd50cc0e28a8986486e5b7b6ba2ec5d96811106b2", func := "alembic/alembiclaw10.KemDecaps", spec := "kemDecaps", unfollowed := true, recurses := true, named := ["alembic/api.ErrRange", "alembic/api.ErrLength", "alembic/api.ErrShape", "alembic/api.ErrMany", "alembic/api.ErrNone", "alembic/api.ErrOp", "alembic/api.ErrVar", "alembic/api.ErrSecret", "alembic/api.ErrLabel", "alembic/api.ErrFar", "alembic/api.ErrFuel", "alembic/api.ErrFault", "alembic/api.ErrWord", "alembic/api.ErrNumber"], apart := false, laid := [("alembic/api.ErrRange", laid_alembic_api_ErrRange), ("alembic/api.ErrLength", laid_alembic_api_ErrLength), ("alembic/api.ErrMany", laid_alembic_api_ErrMany), ("alembic/api.ErrShape", laid_alembic_api_ErrShape), ("alembic/api.ErrNone", laid_alembic_api_ErrNone), ("alembic/api.ErrOp", laid_alembic_api_ErrOp), ("alembic/api.ErrVar", laid_alembic_api_ErrVar), ("alembic/api.ErrSecret", laid_alembic_api_ErrSecret), ("alembic/api.ErrLabel", laid_alembic_api_ErrLabel), ("alembic/api.ErrFar", laid_alembic_api_ErrFar), ("alembic/api.ErrFuel", laid_alembic_api_ErrFuel), ("alembic/api.ErrFault", laid_alembic_api_ErrFault), ("alembic/api.ErrWord", laid_alembic_api_ErrWord), ("alembic/api.ErrNumber", laid_alembic_api_ErrNumber)], narrowed := true }
def KemDecapsUptoSaid : Prop := kemDecapsUptoRow.holds Tryz.pinned (OpenSpec.upto kemDecapsSpec)

/-- 'alembiclaw10.KemBent', WHERE WHAT IT READS IS OF BULK AT MOST 1048576: true; the input reads as it did. -/
def kemBentUptoRow : OpenClaim := { program := "ytjnomoefbffpoaagreatdoor", sum := "204b4eb599eeb2a54755669cd50cc0e28a8986486e5b7b6ba2ec5d96811106b2", func := "alembic/alembiclaw10.KemBent", spec := "kemBent", unfollowed := true, recurses := true, named := ["alembic/api.ErrRange", "alembic/api.ErrLength", "alembic/api.ErrShape", "alembic/api.ErrMany", "alembic/api.ErrNone", "alembic/api.ErrOp", "alembic/api.ErrVar", "alembic/api.ErrSecret", "alembic/api.ErrLabel", "alembic/api.ErrFar", "alembic/api.ErrFuel", "alembic/api.ErrFault", "alembic/api.ErrWord", "alembic/api.ErrNumber"], apart := false, laid := [("alembic/api.ErrRange", laid_alembic_api_ErrRange), ("alembic/api.ErrLength", laid_alembic_api_ErrLength), ("alembic/api.ErrMany", laid_alembic_api_ErrMany), ("alembic/api.ErrShape", laid_alembic_api_ErrShape), ("alembic/api.ErrNone", laid_alembic_api_ErrNone), ("alembic/api.ErrOp", laid_alembic_api_ErrOp), ("alembic/api.ErrVar", laid_alembic_api_ErrVar), ("alembic/api.ErrSecret", laid_alembic_api_ErrSecret), ("alembic/api.ErrLabel", laid_alembic_api_ErrLabel), ("alembic/api.ErrFar", laid_alembic_api_ErrFar), ("alembic/api.ErrFuel", laid_alembic_api_ErrFuel), ("alembic/api.ErrFault", laid_alembic_api_ErrFault), ("alembic/api.ErrWord", laid_alembic_api_ErrWord), ("alembic/api.ErrNumber", laid_alembic_api_ErrNumber)], narrowed := true }
def KemBentUptoSaid : Prop := kemBentUptoRow.holds Tryz.pinned (OpenSpec.upto kemBentSpec)

end Rows
end Go.Proofs.YtjnomoefbffpoaaGreatDoor
