/-
  NARROWER THAN 'FOR EVERY INPUT', by the rows' own cells (each row's printed sentence says how): ZqPowers: laid · ZqField: laid · ZqCenter: laid.
  DERIVED. THE GIVEN ROWS OF THIS SEAT. 3 by the template 'for every input the law returns true; each argument reads behind the call as it read before'; 0 by the template 'total and deterministic' (their statements: YthfbehemcpghaaaDoorTotals.lean).
  GIVEN WITH THE SEED: the statements are not yours to turn. If you find one false, say at which input.
  Laid BY PROGRAM, IN A SANDBOX (cutbox-rows.mjs): the forced cells as the released guide's own fill.sh prints them over the translation 2faf9d81fa652d4d… (all of the seat's roots in one cut). By AI agents, Wed Nov 11 2026. No macro, syntax, notation, axiom, sorry.
-/
import Derived.Test.YthfbehemcpghaaaDoorChecked
import GoSem.Claim
import GoSem.ClaimJoined
import GoSem.ClaimMapViews
import Derived.JoinedTies
import Derived.KernelRfl
namespace Go.Proofs.YthfbehemcpghaaaDoor
/- THE CELL 'sum', in the pinned program and in every row, IS THE sha256 OF THE DUMP (.gsa) THAT YthfbehemcpghaaaDoorProg.lean LOADS. Nothing in Lean hashes anything: it is a label: what it is worth is what the hold of that sum in a sandbox is worth. -/
noncomputable def Tryd.pinned : Pinned := { name := "ythfbehemcpghaaadoor", sum := "2faf9d81fa652d4df5069f8ab0cd8b549ad784814a61ec2428708b4710e18306", checked := Tryd.checked }
namespace Rows
def none {H : Type} : Left H := { results := [], args := [] }

/- WHAT THE LISTED PACKAGE-LEVEL VARIABLES READ AS WHEN THE CALL BEGINS. Each datum BY PROGRAM (the guide's laid-datum.mjs) off the statement by which the dump's own 'gosem.cut.vars' lays the variable. In a bare row this is a premise. The card (YthfbehemcpghaaaDoorCards.lean) ties it to the program's text. -/
def laid_alembic_api_ErrRange {H : Type} : DataW H := .iface "*errors.errorString" (.ptr (.agg [.lit (.string [97, 32, 110, 117, 109, 98, 101, 114, 32, 111, 117, 116, 32, 111, 102, 32, 105, 116, 115, 32, 114, 97, 110, 103, 101])]))

/-- 'alembiclaw1.ZqPowers': WHATEVER THE INPUT: true; the input reads as it did. -/
def zqPowersSpec : ChangeSpec := { name := "zqPowers", fn := fun _ => fun
  | [d1, d2, d3, d4] => { results := [.lit (.bool true)], args := [d1, d2, d3, d4] }
  | _ => none }
def zqPowersRow : OpenClaim := { program := "ythfbehemcpghaaadoor", sum := "2faf9d81fa652d4df5069f8ab0cd8b549ad784814a61ec2428708b4710e18306", func := "alembic/alembiclaw1.ZqPowers", spec := "zqPowers", named := ["alembic/api.ErrRange"], apart := false, laid := [("alembic/api.ErrRange", laid_alembic_api_ErrRange)] }
def ZqPowersSaid : Prop := zqPowersRow.holds Tryd.pinned (OpenSpec.ofChange zqPowersSpec)

/-- ITS FALSE NEIGHBOUR: 'it returns false'. Refute it at one input. -/
def zqPowersWrong : ChangeSpec := { name := "zqPowers", fn := fun _ => fun
  | [d1, d2, d3, d4] => { results := [.lit (.bool false)], args := [d1, d2, d3, d4] }
  | _ => none }
def ZqPowersWrongFalsely : Prop := zqPowersRow.holds Tryd.pinned (OpenSpec.ofChange zqPowersWrong)

/-- 'alembiclaw1.ZqField': WHATEVER THE INPUT: true; the input reads as it did. -/
def zqFieldSpec : ChangeSpec := { name := "zqField", fn := fun _ => fun
  | [d1, d2, d3, d4] => { results := [.lit (.bool true)], args := [d1, d2, d3, d4] }
  | _ => none }
def zqFieldRow : OpenClaim := { program := "ythfbehemcpghaaadoor", sum := "2faf9d81fa652d4df5069f8ab0cd8b549ad784814a61ec2428708b4710e18306", func := "alembic/alembiclaw1.ZqField", spec := "zqField", named := ["alembic/api.ErrRange"], apart := false, laid := [("alembic/api.ErrRange", laid_alembic_api_ErrRange)] }
def ZqFieldSaid : Prop := zqFieldRow.holds Tryd.pinned (OpenSpec.ofChange zqFieldSpec)

/-- ITS FALSE NEIGHBOUR: 'it returns false'. Refute it at one input. -/
def zqFieldWrong : ChangeSpec := { name := "zqField", fn := fun _ => fun
  | [d1, d2, d3, d4] => { results := [.lit (.bool false)], args := [d1, d2, d3, d4] }
  | _ => none }
def ZqFieldWrongFalsely : Prop := zqFieldRow.holds Tryd.pinned (OpenSpec.ofChange zqFieldWrong)

/-- 'alembiclaw1.ZqCenter': WHATEVER THE INPUT: true; the input reads as it did. -/
def zqCenterSpec : ChangeSpec := { name := "zqCenter", fn := fun _ => fun
  | [d1, d2] => { results := [.lit (.bool true)], args := [d1, d2] }
  | _ => none }
def zqCenterRow : OpenClaim := { program := "ythfbehemcpghaaadoor", sum := "2faf9d81fa652d4df5069f8ab0cd8b549ad784814a61ec2428708b4710e18306", func := "alembic/alembiclaw1.ZqCenter", spec := "zqCenter", named := ["alembic/api.ErrRange"], apart := false, laid := [("alembic/api.ErrRange", laid_alembic_api_ErrRange)] }
def ZqCenterSaid : Prop := zqCenterRow.holds Tryd.pinned (OpenSpec.ofChange zqCenterSpec)

/-- ITS FALSE NEIGHBOUR: 'it returns false'. Refute it at one input. -/
def zqCenterWrong : ChangeSpec := { name := "zqCenter", fn := fun _ => fun
  | [d1, d2] => { results := [.lit (.bool false)], args := [d1, d2] }
  | _ => none }
def ZqCenterWrongFalsely : Prop := zqCenterRow.holds Tryd.pinned (OpenSpec.ofChange zqCenterWrong)

/- THE SECOND FORM. 'bulk': how many values and letters a reading holds, each counted each time it is reached (what is shared counts as often as it is met; a slice's spare places count too). A statement '..UptoSaid' is the law's where the arguments, and the package variables that the reading takes, are together of bulk at most 1048576: NARROWER than '..Said'. Prove '..Said' where nothing that the law and all that it calls make is longer than what came in: it says more and counts as full. Else prove '..UptoSaid'. A law counts once. -/
mutual
def uptoBulk {H : Type} : DataW H → Nat
  | .lit (.string bytes) => bytes.length + 1
  | .lit _ => 1
  | .nil => 1
  | .ptr d => uptoBulk d + 1
  | .slice elems spare => uptoBulkAll elems + uptoBulkAll spare + 1
  | .agg parts => uptoBulkAll parts + 1
  | .iface _ d => uptoBulk d + 1
  | .map entries => uptoBulkEntries entries + 1
  | .held _ => 1
def uptoBulkAll {H : Type} : List (DataW H) → Nat
  | [] => 0
  | d :: r => uptoBulk d + uptoBulkAll r
def uptoBulkEntries {H : Type} : List (Lit × DataW H) → Nat
  | [] => 0
  | x :: r => uptoBulkEntry x + uptoBulkEntries r
def uptoBulkEntry {H : Type} : Lit × DataW H → Nat
  | (.string bytes, d) => bytes.length + uptoBulk d + 1
  | (_, d) => uptoBulk d + 1
 end
def uptoSmall : (H : Type) → List (DataW H) → Bool := fun _ ds => decide (uptoBulkAll ds ≤ 1048576)
def OpenSpec.upto (s : _root_.Go.ChangeSpec) : _root_.Go.OpenSpec := { _root_.Go.OpenSpec.ofChange s with cond := some uptoSmall }

/-- 'alembiclaw1.ZqPowers', WHERE WHAT IT READS IS OF BULK AT MOST 1048576: true; the input reads as it did. -/
def zqPowersUptoRow : OpenClaim := { program := "ythfbehemcpghaaadoor", sum := "2faf9d81fa652d4df5069f8ab0cd8b549ad784814a61ec2428708b4710e18306", func := "alembic/alembiclaw1.ZqPowers", spec := "zqPowers", named := ["alembic/api.ErrRange"], apart := false, laid := [("alembic/api.ErrRange", laid_alembic_api_ErrRange)], narrowed := true }
def ZqPowersUptoSaid : Prop := zqPowersUptoRow.holds Tryd.pinned (OpenSpec.upto zqPowersSpec)

/-- 'alembiclaw1.ZqField', WHERE WHAT IT READS IS OF BULK AT MOST 1048576: true; the input reads as it did. -/
def zqFieldUptoRow : OpenClaim := { program := "ythfbehemcpghaaadoor", sum := "2faf9d81fa652d4df5069f8ab0cd8b549ad784814a61ec2428708b4710e18306", func := "alembic/alembiclaw1.ZqField", spec := "zqField", named := ["alembic/api.ErrRange"], apart := false, laid := [("alembic/api.ErrRange", laid_alembic_api_ErrRange)], narrowed := true }
def ZqFieldUptoSaid : Prop := zqFieldUptoRow.holds Tryd.pinned (OpenSpec.upto zqFieldSpec)

/-- 'alembiclaw1.ZqCenter', WHERE WHAT IT READS IS OF BULK AT MOST 1048576: true; the input reads as it did. -/
def zqCenterUptoRow : OpenClaim := { program := "ythfbehemcpghaaadoor", sum := "2faf9d81fa652d4df5069f8ab0cd8b549ad784814a61ec2428708b4710e18306", func := "alembic/alembiclaw1.ZqCenter", spec := "zqCenter", named := ["alembic/api.ErrRange"], apart := false, laid := [("alembic/api.ErrRange", laid_alembic_api_ErrRange)], narrowed := true }
def ZqCenterUptoSaid : Prop := zqCenterUptoRow.holds Tryd.pinned (OpenSpec.upto zqCenterSpec)

end Rows
end Go.Proofs.YthfbehemcpghaaaDoor
