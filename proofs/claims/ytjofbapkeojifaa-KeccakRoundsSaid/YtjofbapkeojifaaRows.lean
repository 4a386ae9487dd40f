/-
  No cell of these rows narrows 'for every input' (looked for: loops, veiled, ifaces, maps, wideKeys, modest, calm, conditions, laid).
  DERIVED. THE GIVEN ROWS OF THIS SEAT. 3 by the template 'for every input the law returns true; each argument reads behind the call as it read before'; 0 by the template 'total and deterministic' (their statements: YtjofbapkeojifaaTotals.lean).
  GIVEN WITH THE SEED: the statements are not yours to turn. If you find one false, say at which input.
  Laid BY PROGRAM, IN A SANDBOX (cutbox-rows.mjs): the forced cells as the released guide's own fill.sh prints them over the translation b32730b8a72c31b8… (all of the seat's roots in one cut). By AI agents, Wed Nov 11 2026. No macro, syntax, notation, axiom, sorry.
-/
import Derived.Test.YtjofbapkeojifaaChecked
import GoSem.Claim
import GoSem.ClaimJoined
import GoSem.ClaimMapViews
import Derived.JoinedTies
import Derived.KernelRfl
namespace Go.Proofs.Ytjofbapkeojifaa
/- THE CELL 'sum', in the pinned program and in every row, IS THE sha256 OF THE DUMP (.gsa) THAT YtjofbapkeojifaaProg.lean LOADS. Nothing in Lean hashes anything: it is a label: what it is worth is what the hold of that sum in a sandbox is worth. -/
noncomputable def Try.pinned : Pinned := { name := "ytjofbapkeojifaa", sum := "b32730b8a72c31b8d84644579ba514033305db63ebcbd3539690ac19698f36ff", checked := Try.checked }
namespace Rows
def none {H : Type} : Left H := { results := [], args := [] }

/-- 'alembiclaw4.KeccakSteps': WHATEVER THE INPUT: true; the input reads as it did. -/
def keccakStepsSpec : ChangeSpec := { name := "keccakSteps", fn := fun _ => fun
  | [d1, d2, d3] => { results := [.lit (.bool true)], args := [d1, d2, d3] }
  | _ => none }
def keccakStepsRow : OpenClaim := { program := "ytjofbapkeojifaa", sum := "b32730b8a72c31b8d84644579ba514033305db63ebcbd3539690ac19698f36ff", func := "alembic/alembiclaw4.KeccakSteps", spec := "keccakSteps", apart := false }
def KeccakStepsSaid : Prop := keccakStepsRow.holds Try.pinned (OpenSpec.ofChange keccakStepsSpec)

/-- ITS FALSE NEIGHBOUR: 'it returns false'. Refute it at one input. -/
def keccakStepsWrong : ChangeSpec := { name := "keccakSteps", fn := fun _ => fun
  | [d1, d2, d3] => { results := [.lit (.bool false)], args := [d1, d2, d3] }
  | _ => none }
def KeccakStepsWrongFalsely : Prop := keccakStepsRow.holds Try.pinned (OpenSpec.ofChange keccakStepsWrong)

/-- 'alembiclaw4.KeccakSays': WHATEVER THE INPUT: true; the input reads as it did. -/
def keccakSaysSpec : ChangeSpec := { name := "keccakSays", fn := fun _ => fun
  | [d1, d2, d3, d4] => { results := [.lit (.bool true)], args := [d1, d2, d3, d4] }
  | _ => none }
def keccakSaysRow : OpenClaim := { program := "ytjofbapkeojifaa", sum := "b32730b8a72c31b8d84644579ba514033305db63ebcbd3539690ac19698f36ff", func := "alembic/alembiclaw4.KeccakSays", spec := "keccakSays", apart := false }
def KeccakSaysSaid : Prop := keccakSaysRow.holds Try.pinned (OpenSpec.ofChange keccakSaysSpec)

/-- ITS FALSE NEIGHBOUR: 'it returns false'. Refute it at one input. -/
def keccakSaysWrong : ChangeSpec := { name := "keccakSays", fn := fun _ => fun
  | [d1, d2, d3, d4] => { results := [.lit (.bool false)], args := [d1, d2, d3, d4] }
  | _ => none }
def KeccakSaysWrongFalsely : Prop := keccakSaysRow.holds Try.pinned (OpenSpec.ofChange keccakSaysWrong)

/-- 'alembiclaw4.KeccakRounds': WHATEVER THE INPUT: true; the input reads as it did. -/
def keccakRoundsSpec : ChangeSpec := { name := "keccakRounds", fn := fun _ => fun
  | [d1, d2, d3] => { results := [.lit (.bool true)], args := [d1, d2, d3] }
  | _ => none }
def keccakRoundsRow : OpenClaim := { program := "ytjofbapkeojifaa", sum := "b32730b8a72c31b8d84644579ba514033305db63ebcbd3539690ac19698f36ff", func := "alembic/alembiclaw4.KeccakRounds", spec := "keccakRounds", apart := false }
def KeccakRoundsSaid : Prop := keccakRoundsRow.holds Try.pinned (OpenSpec.ofChange keccakRoundsSpec)

/-- ITS FALSE NEIGHBOUR: 'it returns false'. Refute it at one input. -/
def keccakRoundsWrong : ChangeSpec := { name := "keccakRounds", fn := fun _ => fun
  | [d1, d2, d3] => { results := [.lit (.bool false)], args := [d1, d2, d3] }
  | _ => none }
def KeccakRoundsWrongFalsely : Prop := keccakRoundsRow.holds Try.pinned (OpenSpec.ofChange keccakRoundsWrong)

/- THE SECOND FORM. 'bulk': how many values and letters a reading holds, each counted each time it is reached (what is shared counts as often as it is met; a slice's spare places count too). A statement '..UptoSaid' is the law's where the arguments, and the package variables that the reading takes, are together of bulk at most 1048576: NARROWER than '..Said'. Prove '..Said' where nothing that the law and all that it calls make is longer than what came in: it says more and counts as full. Else prove '..UptoSaid'. A law counts once. -/
mutual
def uptoBulk {H : Type} : DataW H → Nat
  | .lit (.string bytes) => bytes.length + 1
  | .lit _ => 1
  | .nil => 1
  | .ptr d => uptoBulk d + 1
  | .slice elems spare => uptoBulkAll elems + uptoBulkAll spare + 1
  | .agg parts => uptoBulkAll parts + 1
  | .iface _ d => uptoBulk d + 1
  | .map entries => uptoBulkEntries entries + 1
  | .held _ => 1
def uptoBulkAll {H : Type} : List (DataW H) → Nat
  | [] => 0
  | d :: r => uptoBulk d + uptoBulkAll r
def uptoBulkEntries {H : Type} : List (Lit × DataW H) → Nat
  | [] => 0
  | x :: r => uptoBulkEntry x + uptoBulkEntries r
def uptoBulkEntry {H : Type} : Lit × DataW H → Nat
  | (.string bytes, d) => bytes.length + uptoBulk d + 1
  | (_, d) => uptoBulk d + 1
 end
def uptoSmall : (H : Type) → List (DataW H) → Bool := fun _ ds => decide (uptoBulkAll ds ≤ 1048576)
def OpenSpec.upto (s : _root_.Go.ChangeSpec) : _root_.Go.OpenSpec := { _root_.Go.OpenSpec.ofChange s with cond := some uptoSmall }

/-- 'alembiclaw4.KeccakSteps', WHERE WHAT IT READS IS OF BULK AT MOST 1048576: true; the input reads as it did. -/
def keccakStepsUptoRow : OpenClaim := { program := "ytjofbapkeojifaa", sum := "b32730b8a72c31b8d84644579ba514033305db63ebcbd3539690ac19698f36ff", func := "alembic/alembiclaw4.KeccakSteps", spec := "keccakSteps", apart := false, narrowed := true }
def KeccakStepsUptoSaid : Prop := keccakStepsUptoRow.holds Try.pinned (OpenSpec.upto keccakStepsSpec)

/-- 'alembiclaw4.KeccakSays', WHERE WHAT IT READS IS OF BULK AT MOST 1048576: true; the input reads as it did. -/
def keccakSaysUptoRow : OpenClaim := { program := "ytjofbapkeojifaa", sum := "b32730b8a72c31b8d84644579ba514033305db63ebcbd3539690ac19698f36ff", func := "alembic/alembiclaw4.KeccakSays", spec := "keccakSays", apart := false, narrowed := true }
def KeccakSaysUptoSaid : Prop := keccakSaysUptoRow.holds Try.pinned (OpenSpec.upto keccakSaysSpec)

/-- 'alembiclaw4.KeccakRounds', WHERE WHAT IT READS IS OF BULK AT MOST 1048576: true; the input reads as it did. -/
def keccakRoundsUptoRow : OpenClaim := { program := "ytjofbapkeojifaa", sum := "b32730b8a72c31b8d84644579ba514033305db63ebcbd3539690ac19698f36ff", func := "alembic/alembiclaw4.KeccakRounds", spec := "keccakRounds", apart := false, narrowed := true }
def KeccakRoundsUptoSaid : Prop := keccakRoundsUptoRow.holds Try.pinned (OpenSpec.upto keccakRoundsSpec)

end Rows
end Go.Proofs.Ytjofbapkeojifaa
