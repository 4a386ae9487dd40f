/-
  No cell of these rows narrows 'for every input' (looked for: loops, veiled, ifaces, maps, wideKeys, modest, calm, conditions, laid).
  DERIVED. THE GIVEN ROWS OF THIS SEAT. 4 by the template 'for every input the law returns true; each argument reads behind the call as it read before'; 0 by the template 'total and deterministic' (their statements: YthfbehemcpghaaaTotals.lean).
  GIVEN WITH THE SEED: the statements are not yours to turn. If you find one false, say at which input.
  Laid BY PROGRAM, IN A SANDBOX (cutbox-rows.mjs): the forced cells as the released guide's own fill.sh prints them over the translation a64faf8fe109d214… (all of the seat's roots in one cut). By AI agents, Wed Nov 11 2026. No macro, syntax, notation, axiom, sorry.
-/
import Derived.Test.YthfbehemcpghaaaChecked
import GoSem.Claim
import GoSem.ClaimJoined
import GoSem.ClaimMapViews
import Derived.JoinedTies
import Derived.KernelRfl
namespace Go.Proofs.Ythfbehemcpghaaa
/- THE CELL 'sum', in the pinned program and in every row, IS THE sha256 OF THE DUMP (.gsa) THAT YthfbehemcpghaaaProg.lean LOADS. Nothing in Lean hashes anything: it is a label: what it is worth is what the hold of that sum in a sandbox is worth. -/
noncomputable def Try.pinned : Pinned := { name := "ythfbehemcpghaaa", sum := "a64faf8fe109d21477ff3a1087a28694badafbcf0a7b057487d0c4f0de67e767", checked := Try.checked }
namespace Rows
def none {H : Type} : Left H := { results := [], args := [] }

/-- 'alembiclaw8.HintParts': WHATEVER THE INPUT: true; the input reads as it did. -/
def hintPartsSpec : ChangeSpec := { name := "hintParts", fn := fun _ => fun
  | [d1, d2] => { results := [.lit (.bool true)], args := [d1, d2] }
  | _ => none }
def hintPartsRow : OpenClaim := { program := "ythfbehemcpghaaa", sum := "a64faf8fe109d21477ff3a1087a28694badafbcf0a7b057487d0c4f0de67e767", func := "alembic/alembiclaw8.HintParts", spec := "hintParts", apart := false }
def HintPartsSaid : Prop := hintPartsRow.holds Try.pinned (OpenSpec.ofChange hintPartsSpec)

/-- ITS FALSE NEIGHBOUR: 'it returns false'. Refute it at one input. -/
def hintPartsWrong : ChangeSpec := { name := "hintParts", fn := fun _ => fun
  | [d1, d2] => { results := [.lit (.bool false)], args := [d1, d2] }
  | _ => none }
def HintPartsWrongFalsely : Prop := hintPartsRow.holds Try.pinned (OpenSpec.ofChange hintPartsWrong)

/-- 'alembiclaw8.HintSays': WHATEVER THE INPUT: true; the input reads as it did. -/
def hintSaysSpec : ChangeSpec := { name := "hintSays", fn := fun _ => fun
  | [d1, d2, d3, d4, d5] => { results := [.lit (.bool true)], args := [d1, d2, d3, d4, d5] }
  | _ => none }
def hintSaysRow : OpenClaim := { program := "ythfbehemcpghaaa", sum := "a64faf8fe109d21477ff3a1087a28694badafbcf0a7b057487d0c4f0de67e767", func := "alembic/alembiclaw8.HintSays", spec := "hintSays", apart := false }
def HintSaysSaid : Prop := hintSaysRow.holds Try.pinned (OpenSpec.ofChange hintSaysSpec)

/-- ITS FALSE NEIGHBOUR: 'it returns false'. Refute it at one input. -/
def hintSaysWrong : ChangeSpec := { name := "hintSays", fn := fun _ => fun
  | [d1, d2, d3, d4, d5] => { results := [.lit (.bool false)], args := [d1, d2, d3, d4, d5] }
  | _ => none }
def HintSaysWrongFalsely : Prop := hintSaysRow.holds Try.pinned (OpenSpec.ofChange hintSaysWrong)

/-- 'alembiclaw8.HintUses': WHATEVER THE INPUT: true; the input reads as it did. -/
def hintUsesSpec : ChangeSpec := { name := "hintUses", fn := fun _ => fun
  | [d1, d2, d3] => { results := [.lit (.bool true)], args := [d1, d2, d3] }
  | _ => none }
def hintUsesRow : OpenClaim := { program := "ythfbehemcpghaaa", sum := "a64faf8fe109d21477ff3a1087a28694badafbcf0a7b057487d0c4f0de67e767", func := "alembic/alembiclaw8.HintUses", spec := "hintUses", apart := false }
def HintUsesSaid : Prop := hintUsesRow.holds Try.pinned (OpenSpec.ofChange hintUsesSpec)

/-- ITS FALSE NEIGHBOUR: 'it returns false'. Refute it at one input. -/
def hintUsesWrong : ChangeSpec := { name := "hintUses", fn := fun _ => fun
  | [d1, d2, d3] => { results := [.lit (.bool false)], args := [d1, d2, d3] }
  | _ => none }
def HintUsesWrongFalsely : Prop := hintUsesRow.holds Try.pinned (OpenSpec.ofChange hintUsesWrong)

/-- 'alembiclaw8.HintNone': WHATEVER THE INPUT: true; the input reads as it did. -/
def hintNoneSpec : ChangeSpec := { name := "hintNone", fn := fun _ => fun
  | [d1, d2] => { results := [.lit (.bool true)], args := [d1, d2] }
  | _ => none }
def hintNoneRow : OpenClaim := { program := "ythfbehemcpghaaa", sum := "a64faf8fe109d21477ff3a1087a28694badafbcf0a7b057487d0c4f0de67e767", func := "alembic/alembiclaw8.HintNone", spec := "hintNone", apart := false }
def HintNoneSaid : Prop := hintNoneRow.holds Try.pinned (OpenSpec.ofChange hintNoneSpec)

/-- ITS FALSE NEIGHBOUR: 'it returns false'. Refute it at one input. -/
def hintNoneWrong : ChangeSpec := { name := "hintNone", fn := fun _ => fun
  | [d1, d2] => { results := [.lit (.bool false)], args := [d1, d2] }
  | _ => none }
def HintNoneWrongFalsely : Prop := hintNoneRow.holds Try.pinned (OpenSpec.ofChange hintNoneWrong)

/- THE SECOND FORM. 'bulk': how many values and letters a reading holds, each counted each time it is reached (what is shared counts as often as it is met; a slice's spare places count too). A statement '..UptoSaid' is the law's where the arguments, and the package variables that the reading takes, are together of bulk at most 1048576: NARROWER than '..Said'. Prove '..Said' where nothing that the law and all that it calls make is longer than what came in: it says more and counts as full. Else prove '..UptoSaid'. A law counts once. -/
mutual
def uptoBulk {H : Type} : DataW H → Nat
  | .lit (.string bytes) => bytes.length + 1
  | .lit _ => 1
  | .nil => 1
  | .ptr d => uptoBulk d + 1
  | .slice elems spare => uptoBulkAll elems + uptoBulkAll spare + 1
  | .agg parts => uptoBulkAll parts + 1
  | .iface _ d => uptoBulk d + 1
  | .map entries => uptoBulkEntries entries + 1
  | .held _ => 1
def uptoBulkAll {H : Type} : List (DataW H) → Nat
  | [] => 0
  | d :: r => uptoBulk d + uptoBulkAll r
def uptoBulkEntries {H : Type} : List (Lit × DataW H) → Nat
  | [] => 0
  | x :: r => uptoBulkEntry x + uptoBulkEntries r
def uptoBulkEntry {H : Type} : Lit × DataW H → Nat
  | (.string bytes, d) => bytes.length + uptoBulk d + 1
  | (_, d) => uptoBulk d + 1
 end
def uptoSmall : (H : Type) → List (DataW H) → Bool := fun _ ds => decide (uptoBulkAll ds ≤ 1048576)
def OpenSpec.upto (s : _root_.Go.ChangeSpec) : _root_.Go.OpenSpec := { _root_.Go.OpenSpec.ofChange s with cond := some uptoSmall }

/-- 'alembiclaw8.HintParts', WHERE WHAT IT READS IS OF BULK AT MOST 1048576: true; the input reads as it did. -/
def hintPartsUptoRow : OpenClaim := { program := "ythfbehemcpghaaa", sum := "a64faf8fe109d21477ff3a1087a28694badafbcf0a7b057487d0c4f0de67e767", func := "alembic/alembiclaw8.HintParts", spec := "hintParts", apart := false, narrowed := true }
def HintPartsUptoSaid : Prop := hintPartsUptoRow.holds Try.pinned (OpenSpec.upto hintPartsSpec)

/-- 'alembiclaw8.HintSays', WHERE WHAT IT READS IS OF BULK AT MOST 1048576: true; the input reads as it did. -/
def hintSaysUptoRow : OpenClaim := { program := "ythfbehemcpghaaa", sum := "a64faf8fe109d21477ff3a1087a28694badafbcf0a7b057487d0c4f0de67e767", func := "alembic/alembiclaw8.HintSays", spec := "hintSays", apart := false, narrowed := true }
def HintSaysUptoSaid : Prop := hintSaysUptoRow.holds Try.pinned (OpenSpec.upto hintSaysSpec)

/-- 'alembiclaw8.HintUses', WHERE WHAT IT READS IS OF BULK AT MOST 1048576: true; the input reads as it did. -/
def hintUsesUptoRow : OpenClaim := { program := "ythfbehemcpghaaa", sum := "a64faf8fe109d21477ff3a1087a28694badafbcf0a7b057487d0c4f0de67e767", func := "alembic/alembiclaw8.HintUses", spec := "hintUses", apart := false, narrowed := true }
def HintUsesUptoSaid : Prop := hintUsesUptoRow.holds Try.pinned (OpenSpec.upto hintUsesSpec)

/-- 'alembiclaw8.HintNone', WHERE WHAT IT READS IS OF BULK AT MOST 1048576: true; the input reads as it did. -/
def hintNoneUptoRow : OpenClaim := { program := "ythfbehemcpghaaa", sum := "a64faf8fe109d21477ff3a1087a28694badafbcf0a7b057487d0c4f0de67e767", func := "alembic/alembiclaw8.HintNone", spec := "hintNone", apart := false, narrowed := true }
def HintNoneUptoSaid : Prop := hintNoneUptoRow.holds Try.pinned (OpenSpec.upto hintNoneSpec)

end Rows
end Go.Proofs.Ythfbehemcpghaaa
