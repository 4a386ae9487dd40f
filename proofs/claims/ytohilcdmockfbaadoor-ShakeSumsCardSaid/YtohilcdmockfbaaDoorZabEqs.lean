/- Equations, constructor by constructor: so nothing is unfolded at a value that is not known. -/
import Derived.Test.YtohilcdmockfbaaDoorZabVal
namespace Zab
open Go
set_option linter.unusedVariables false

theorem mapR_eqs : (∀ (f : AV → AV) (k : IntKind) (n : Int), AV.mapR f (.i k n) = f (.i k n)) ∧
    (∀ (f : AV → AV) (t : Bool), AV.mapR f (.b t) = f (.b t)) ∧
    (∀ (f : AV → AV) (t : ByteArray), AV.mapR f (.s t) = f (.s t)) ∧
    (∀ (f : AV → AV) , AV.mapR f .nl = f .nl) ∧
    (∀ (f : AV → AV) , AV.mapR f .np = f .np) ∧
    (∀ (f : AV → AV) , AV.mapR f .nf = f .nf) ∧
    (∀ (f : AV → AV) , AV.mapR f .un = f .un) ∧
    (∀ (f : AV → AV) , AV.mapR f .gone = f .gone) ∧
    (∀ (f : AV → AV) (g : Nat), AV.mapR f (.er g) = f (.er g)) ∧
    (∀ (f : AV → AV) (cs : List AV) (n : Nat), AV.mapR f (.sl cs n) = f (.sl cs n)) ∧
    (∀ (f : AV → AV) , AV.mapR f .z = f .z) ∧
    (∀ (f : AV → AV) (cs : List AV) (n sz : Nat), AV.mapR f (.os cs n sz) = f (.os cs n sz)) ∧
    (∀ (f : AV → AV) (cs : List AV), AV.mapR f (.op cs) = f (.op cs)) ∧
    (∀ (f : AV → AV) (cs : List AV), AV.mapR f (.ag cs) = f (.ag cs)) ∧
    (∀ (f : AV → AV) (l : List AV), AV.mapR f (.tp l) = .tp (l.map f)) ∧
    (∀ (f : AV → AV) (e o : Nat), AV.mapR f (.rf e o) = f (.rf e o)) ∧
    (∀ (f : AV → AV) (e o n sz : Nat), AV.mapR f (.rs e o n sz) = f (.rs e o n sz)) ∧
    (∀ (f : AV → AV) (cs : List AV) (j : Nat), AV.mapR f (.el cs j) = f (.el cs j)) ∧
    (∀ (f : AV → AV) (g : Nat), AV.mapR f (.gl g) = f (.gl g)) ∧
    (∀ (f : AV → AV) (g : Nat) (l : List AV), AV.mapR f (.fn g l) = .fn g (l.map f)) := by
  refine ⟨?_, ?_, ?_, ?_, ?_, ?_, ?_, ?_, ?_, ?_, ?_, ?_, ?_, ?_, ?_, ?_, ?_, ?_, ?_, ?_⟩ <;> intros <;> rfl

theorem kill1_eqs : (∀ (d : Nat) (k : IntKind) (n : Int), kill1 d (.i k n) = (.i k n)) ∧
    (∀ (d : Nat) (t : Bool), kill1 d (.b t) = (.b t)) ∧
    (∀ (d : Nat) (t : ByteArray), kill1 d (.s t) = (.s t)) ∧
    (∀ (d : Nat) , kill1 d .nl = .nl) ∧
    (∀ (d : Nat) , kill1 d .np = .np) ∧
    (∀ (d : Nat) , kill1 d .nf = .nf) ∧
    (∀ (d : Nat) , kill1 d .un = .un) ∧
    (∀ (d : Nat) , kill1 d .gone = .gone) ∧
    (∀ (d : Nat) (g : Nat), kill1 d (.er g) = (.er g)) ∧
    (∀ (d : Nat) (cs : List AV) (n : Nat), kill1 d (.sl cs n) = (.sl cs n)) ∧
    (∀ (d : Nat) , kill1 d .z = .z) ∧
    (∀ (d : Nat) (cs : List AV) (n sz : Nat), kill1 d (.os cs n sz) = (.os cs n sz)) ∧
    (∀ (d : Nat) (cs : List AV), kill1 d (.op cs) = (.op cs)) ∧
    (∀ (d : Nat) (cs : List AV), kill1 d (.ag cs) = (.ag cs)) ∧
    (∀ (d : Nat) (l : List AV), kill1 d (.tp l) = .gone) ∧
    (∀ (d : Nat) (e o : Nat), kill1 d (.rf e o) = (bif Nat.beq e d then .gone else .rf e o)) ∧
    (∀ (d : Nat) (e o n sz : Nat), kill1 d (.rs e o n sz) = (bif Nat.beq e d then .gone else .rs e o n sz)) ∧
    (∀ (d : Nat) (cs : List AV) (j : Nat), kill1 d (.el cs j) = (.el cs j)) ∧
    (∀ (d : Nat) (g : Nat), kill1 d (.gl g) = (.gl g)) ∧
    (∀ (d g : Nat), kill1 d (.fn g []) = .fn g []) ∧
    (∀ (d g : Nat) (x : AV) (l : List AV), kill1 d (.fn g (x :: l)) = .gone) := by
  refine ⟨?_, ?_, ?_, ?_, ?_, ?_, ?_, ?_, ?_, ?_, ?_, ?_, ?_, ?_, ?_, ?_, ?_, ?_, ?_, ?_, ?_⟩ <;> intros <;> rfl

theorem frz1_eqs : (∀ (d : Nat) (ds : List AV) (k : IntKind) (n : Int), frz1 d ds (.i k n) = (.i k n)) ∧
    (∀ (d : Nat) (ds : List AV) (t : Bool), frz1 d ds (.b t) = (.b t)) ∧
    (∀ (d : Nat) (ds : List AV) (t : ByteArray), frz1 d ds (.s t) = (.s t)) ∧
    (∀ (d : Nat) (ds : List AV) , frz1 d ds .nl = .nl) ∧
    (∀ (d : Nat) (ds : List AV) , frz1 d ds .np = .np) ∧
    (∀ (d : Nat) (ds : List AV) , frz1 d ds .nf = .nf) ∧
    (∀ (d : Nat) (ds : List AV) , frz1 d ds .un = .un) ∧
    (∀ (d : Nat) (ds : List AV) , frz1 d ds .gone = .gone) ∧
    (∀ (d : Nat) (ds : List AV) (g : Nat), frz1 d ds (.er g) = (.er g)) ∧
    (∀ (d : Nat) (ds : List AV) (cs : List AV) (n : Nat), frz1 d ds (.sl cs n) = (.sl cs n)) ∧
    (∀ (d : Nat) (ds : List AV) , frz1 d ds .z = .z) ∧
    (∀ (d : Nat) (ds : List AV) (cs : List AV) (n sz : Nat), frz1 d ds (.os cs n sz) = (.os cs n sz)) ∧
    (∀ (d : Nat) (ds : List AV) (cs : List AV), frz1 d ds (.op cs) = (.op cs)) ∧
    (∀ (d : Nat) (ds : List AV) (cs : List AV), frz1 d ds (.ag cs) = (.ag cs)) ∧
    (∀ (d : Nat) (ds : List AV) (l : List AV), frz1 d ds (.tp l) = .gone) ∧
    (∀ (d : Nat) (ds : List AV) (e o : Nat), frz1 d ds (.rf e o) = (bif Nat.beq e d then .gone else .rf e o)) ∧
    (∀ (d : Nat) (ds : List AV) (e o n sz : Nat), frz1 d ds (.rs e o n sz) = (bif Nat.beq e d then .sl ((ds.drop o).take (n * sz)) n else .rs e o n sz)) ∧
    (∀ (d : Nat) (ds : List AV) (cs : List AV) (j : Nat), frz1 d ds (.el cs j) = (.el cs j)) ∧
    (∀ (d : Nat) (ds : List AV) (g : Nat), frz1 d ds (.gl g) = (.gl g)) ∧
    (∀ (d : Nat) (ds : List AV) (g : Nat), frz1 d ds (.fn g []) = .fn g []) ∧
    (∀ (d : Nat) (ds : List AV) (g : Nat) (x : AV) (l : List AV), frz1 d ds (.fn g (x :: l)) = .gone) := by
  refine ⟨?_, ?_, ?_, ?_, ?_, ?_, ?_, ?_, ?_, ?_, ?_, ?_, ?_, ?_, ?_, ?_, ?_, ?_, ?_, ?_, ?_⟩ <;> intros <;> rfl

theorem enterS_eqs : (∀ (j : Nat), enterS j [] = []) ∧
    (∀ (j : Nat) (k : IntKind) (n : Int) (r : List AV), enterS j ((.i k n) :: r) = (j, (.i k n)) :: enterS (j + 1) r) ∧
    (∀ (j : Nat) (t : Bool) (r : List AV), enterS j ((.b t) :: r) = (j, (.b t)) :: enterS (j + 1) r) ∧
    (∀ (j : Nat) (t : ByteArray) (r : List AV), enterS j ((.s t) :: r) = (j, (.s t)) :: enterS (j + 1) r) ∧
    (∀ (j : Nat)  (r : List AV), enterS j (.nl :: r) = (j, .nl) :: enterS (j + 1) r) ∧
    (∀ (j : Nat)  (r : List AV), enterS j (.np :: r) = (j, .np) :: enterS (j + 1) r) ∧
    (∀ (j : Nat)  (r : List AV), enterS j (.nf :: r) = (j, .nf) :: enterS (j + 1) r) ∧
    (∀ (j : Nat)  (r : List AV), enterS j (.un :: r) = (j, .un) :: enterS (j + 1) r) ∧
    (∀ (j : Nat)  (r : List AV), enterS j (.gone :: r) = (j, .gone) :: enterS (j + 1) r) ∧
    (∀ (j : Nat) (g : Nat) (r : List AV), enterS j ((.er g) :: r) = (j, (.er g)) :: enterS (j + 1) r) ∧
    (∀ (j : Nat) (cs : List AV) (n : Nat) (r : List AV), enterS j ((.sl cs n) :: r) = (j, (.sl cs n)) :: enterS (j + 1) r) ∧
    (∀ (j : Nat)  (r : List AV), enterS j (.z :: r) = (j, .z) :: enterS (j + 1) r) ∧
    (∀ (j : Nat) (cs : List AV) (n sz : Nat) (r : List AV), enterS j ((.os cs n sz) :: r) = (j, (.os cs n sz)) :: enterS (j + 1) r) ∧
    (∀ (j : Nat) (cs : List AV) (r : List AV), enterS j ((.op cs) :: r) = (j, .rf j 0) :: enterS (j + 1) r) ∧
    (∀ (j : Nat) (cs : List AV) (r : List AV), enterS j ((.ag cs) :: r) = (j, (.ag cs)) :: enterS (j + 1) r) ∧
    (∀ (j : Nat) (l : List AV) (r : List AV), enterS j ((.tp l) :: r) = (j, (.tp l)) :: enterS (j + 1) r) ∧
    (∀ (j : Nat) (e o : Nat) (r : List AV), enterS j ((.rf e o) :: r) = (j, (.rf e o)) :: enterS (j + 1) r) ∧
    (∀ (j : Nat) (e o n sz : Nat) (r : List AV), enterS j ((.rs e o n sz) :: r) = (j, (.rs e o n sz)) :: enterS (j + 1) r) ∧
    (∀ (j : Nat) (cs : List AV) (j : Nat) (r : List AV), enterS j ((.el cs j) :: r) = (j, (.el cs j)) :: enterS (j + 1) r) ∧
    (∀ (j : Nat) (g : Nat) (r : List AV), enterS j ((.gl g) :: r) = (j, (.gl g)) :: enterS (j + 1) r) ∧
    (∀ (j g : Nat) (l r : List AV), enterS j (.fn g l :: r) = (j, .fn g l) :: enterS (j + 1) r) := by
  refine ⟨?_, ?_, ?_, ?_, ?_, ?_, ?_, ?_, ?_, ?_, ?_, ?_, ?_, ?_, ?_, ?_, ?_, ?_, ?_, ?_, ?_⟩ <;> intros <;> rfl

theorem enterL_eqs : (∀ (j : Nat), enterL j [] = []) ∧
    (∀ (j : Nat) (k : IntKind) (n : Int) (r : List AV), enterL j ((.i k n) :: r) = enterL (j + 1) r) ∧
    (∀ (j : Nat) (t : Bool) (r : List AV), enterL j ((.b t) :: r) = enterL (j + 1) r) ∧
    (∀ (j : Nat) (t : ByteArray) (r : List AV), enterL j ((.s t) :: r) = enterL (j + 1) r) ∧
    (∀ (j : Nat)  (r : List AV), enterL j (.nl :: r) = enterL (j + 1) r) ∧
    (∀ (j : Nat)  (r : List AV), enterL j (.np :: r) = enterL (j + 1) r) ∧
    (∀ (j : Nat)  (r : List AV), enterL j (.nf :: r) = enterL (j + 1) r) ∧
    (∀ (j : Nat)  (r : List AV), enterL j (.un :: r) = enterL (j + 1) r) ∧
    (∀ (j : Nat)  (r : List AV), enterL j (.gone :: r) = enterL (j + 1) r) ∧
    (∀ (j : Nat) (g : Nat) (r : List AV), enterL j ((.er g) :: r) = enterL (j + 1) r) ∧
    (∀ (j : Nat) (cs : List AV) (n : Nat) (r : List AV), enterL j ((.sl cs n) :: r) = enterL (j + 1) r) ∧
    (∀ (j : Nat)  (r : List AV), enterL j (.z :: r) = enterL (j + 1) r) ∧
    (∀ (j : Nat) (cs : List AV) (n sz : Nat) (r : List AV), enterL j ((.os cs n sz) :: r) = enterL (j + 1) r) ∧
    (∀ (j : Nat) (cs : List AV) (r : List AV), enterL j ((.op cs) :: r) = (j, cs) :: enterL (j + 1) r) ∧
    (∀ (j : Nat) (cs : List AV) (r : List AV), enterL j ((.ag cs) :: r) = enterL (j + 1) r) ∧
    (∀ (j : Nat) (l : List AV) (r : List AV), enterL j ((.tp l) :: r) = enterL (j + 1) r) ∧
    (∀ (j : Nat) (e o : Nat) (r : List AV), enterL j ((.rf e o) :: r) = enterL (j + 1) r) ∧
    (∀ (j : Nat) (e o n sz : Nat) (r : List AV), enterL j ((.rs e o n sz) :: r) = enterL (j + 1) r) ∧
    (∀ (j : Nat) (cs : List AV) (j : Nat) (r : List AV), enterL j ((.el cs j) :: r) = enterL (j + 1) r) ∧
    (∀ (j : Nat) (g : Nat) (r : List AV), enterL j ((.gl g) :: r) = enterL (j + 1) r) ∧
    (∀ (j g : Nat) (l r : List AV), enterL j (.fn g l :: r) = enterL (j + 1) r) := by
  refine ⟨?_, ?_, ?_, ?_, ?_, ?_, ?_, ?_, ?_, ?_, ?_, ?_, ?_, ?_, ?_, ?_, ?_, ?_, ?_, ?_, ?_⟩ <;> intros <;> rfl

theorem isRs_eqs : (∀ (k : IntKind) (n : Int), isRs (.i k n) = false) ∧
    (∀ (t : Bool), isRs (.b t) = false) ∧
    (∀ (t : ByteArray), isRs (.s t) = false) ∧
    (isRs .nl = false) ∧
    (isRs .np = false) ∧
    (isRs .nf = false) ∧
    (isRs .un = false) ∧
    (isRs .gone = false) ∧
    (∀ (g : Nat), isRs (.er g) = false) ∧
    (∀ (cs : List AV) (n : Nat), isRs (.sl cs n) = false) ∧
    (isRs .z = false) ∧
    (∀ (cs : List AV) (n sz : Nat), isRs (.os cs n sz) = false) ∧
    (∀ (cs : List AV), isRs (.op cs) = false) ∧
    (∀ (cs : List AV), isRs (.ag cs) = false) ∧
    (∀ (l : List AV), isRs (.tp l) = false) ∧
    (∀ (e o : Nat), isRs (.rf e o) = false) ∧
    (∀ (e o n sz : Nat), isRs (.rs e o n sz) = true) ∧
    (∀ (cs : List AV) (j : Nat), isRs (.el cs j) = false) ∧
    (∀ (g : Nat), isRs (.gl g) = false) ∧
    (∀ (g : Nat) (l : List AV), isRs (.fn g l) = false) := by
  refine ⟨?_, ?_, ?_, ?_, ?_, ?_, ?_, ?_, ?_, ?_, ?_, ?_, ?_, ?_, ?_, ?_, ?_, ?_, ?_, ?_⟩ <;> intros <;> rfl

theorem toArg_eqs : (∀ (L : List (Nat × List AV)) (k : IntKind) (n : Int), toArg L (.i k n) = some (.i k n)) ∧
    (∀ (L : List (Nat × List AV)) (t : Bool), toArg L (.b t) = some (.b t)) ∧
    (∀ (L : List (Nat × List AV)) (t : ByteArray), toArg L (.s t) = some (.s t)) ∧
    (∀ (L : List (Nat × List AV)) , toArg L .nl = some .nl) ∧
    (∀ (L : List (Nat × List AV)) , toArg L .np = some .np) ∧
    (∀ (L : List (Nat × List AV)) , toArg L .nf = some .nf) ∧
    (∀ (L : List (Nat × List AV)) , toArg L .un = none) ∧
    (∀ (L : List (Nat × List AV)) , toArg L .gone = none) ∧
    (∀ (L : List (Nat × List AV)) (g : Nat), toArg L (.er g) = some (.er g)) ∧
    (∀ (L : List (Nat × List AV)) (cs : List AV) (n : Nat), toArg L (.sl cs n) = some (.sl cs n)) ∧
    (∀ (L : List (Nat × List AV)) , toArg L .z = some .z) ∧
    (∀ (L : List (Nat × List AV)) (cs : List AV) (n sz : Nat), toArg L (.os cs n sz) = none) ∧
    (∀ (L : List (Nat × List AV)) (cs : List AV), toArg L (.op cs) = none) ∧
    (∀ (L : List (Nat × List AV)) (cs : List AV), toArg L (.ag cs) = some (.ag cs)) ∧
    (∀ (L : List (Nat × List AV)) (l : List AV), toArg L (.tp l) = none) ∧
    (∀ (L : List (Nat × List AV)) (e o : Nat), toArg L (.rf e o) = none) ∧
    (∀ (L : List (Nat × List AV)) (cs : List AV) (j : Nat), toArg L (.el cs j) = some (.el cs j)) ∧
    (∀ (L : List (Nat × List AV)) (g : Nat), toArg L (.gl g) = none) ∧
    (∀ (L : List (Nat × List AV)) (g : Nat), toArg L (.fn g []) = some (.fn g [])) := by
  refine ⟨?_, ?_, ?_, ?_, ?_, ?_, ?_, ?_, ?_, ?_, ?_, ?_, ?_, ?_, ?_, ?_, ?_, ?_, ?_⟩ <;> intros <;> rfl

theorem from1_eqs : (∀ (k : IntKind) (n : Int), fromRet1 (.i k n) = some (.i k n)) ∧
    (∀ (t : Bool), fromRet1 (.b t) = some (.b t)) ∧
    (∀ (t : ByteArray), fromRet1 (.s t) = some (.s t)) ∧
    (fromRet1 .nl = some .nl) ∧
    (fromRet1 .np = some .np) ∧
    (fromRet1 .nf = some .nf) ∧
    (fromRet1 .un = some .un) ∧
    (fromRet1 .gone = some .gone) ∧
    (∀ (g : Nat), fromRet1 (.er g) = some (.er g)) ∧
    (∀ (cs : List AV) (n : Nat), fromRet1 (.sl cs n) = some (.sl cs n)) ∧
    (fromRet1 .z = some .z) ∧
    (∀ (cs : List AV) (n sz : Nat), fromRet1 (.os cs n sz) = some (.sl cs n)) ∧
    (∀ (cs : List AV), fromRet1 (.ag cs) = some (.ag cs)) ∧
    (∀ (l : List AV), fromRet1 (.tp l) = none) ∧
    (∀ (e o : Nat), fromRet1 (.rf e o) = some (.rf e o)) ∧
    (∀ (e o n sz : Nat), fromRet1 (.rs e o n sz) = some (.rs e o n sz)) ∧
    (∀ (cs : List AV) (j : Nat), fromRet1 (.el cs j) = some (.el cs j)) ∧
    (∀ (g : Nat), fromRet1 (.gl g) = some (.gl g)) ∧
    (∀ (c : AV) (cs : List AV), fromRet1 (.op (c :: cs)) = some (.el (c :: cs) 0)) ∧
    (∀ (g : Nat) (l : List AV), fromRet1 (.fn g l) = some (.fn g l)) := by
  refine ⟨?_, ?_, ?_, ?_, ?_, ?_, ?_, ?_, ?_, ?_, ?_, ?_, ?_, ?_, ?_, ?_, ?_, ?_, ?_, ?_⟩ <;> intros <;> rfl

theorem from_eqs : (∀ (k : IntKind) (n : Int), fromRet (.i k n) = fromRet1 (.i k n)) ∧
    (∀ (t : Bool), fromRet (.b t) = fromRet1 (.b t)) ∧
    (∀ (t : ByteArray), fromRet (.s t) = fromRet1 (.s t)) ∧
    (fromRet .nl = fromRet1 .nl) ∧
    (fromRet .np = fromRet1 .np) ∧
    (fromRet .nf = fromRet1 .nf) ∧
    (fromRet .un = fromRet1 .un) ∧
    (fromRet .gone = fromRet1 .gone) ∧
    (∀ (g : Nat), fromRet (.er g) = fromRet1 (.er g)) ∧
    (∀ (cs : List AV) (n : Nat), fromRet (.sl cs n) = fromRet1 (.sl cs n)) ∧
    (fromRet .z = fromRet1 .z) ∧
    (∀ (cs : List AV) (n sz : Nat), fromRet (.os cs n sz) = fromRet1 (.os cs n sz)) ∧
    (∀ (cs : List AV), fromRet (.op cs) = fromRet1 (.op cs)) ∧
    (∀ (cs : List AV), fromRet (.ag cs) = fromRet1 (.ag cs)) ∧
    (∀ (l : List AV), fromRet (.tp l) = (fromRetL l).map .tp) ∧
    (∀ (e o : Nat), fromRet (.rf e o) = fromRet1 (.rf e o)) ∧
    (∀ (e o n sz : Nat), fromRet (.rs e o n sz) = fromRet1 (.rs e o n sz)) ∧
    (∀ (cs : List AV) (j : Nat), fromRet (.el cs j) = fromRet1 (.el cs j)) ∧
    (∀ (g : Nat), fromRet (.gl g) = fromRet1 (.gl g)) ∧
    (∀ (g : Nat) (l : List AV), fromRet (.fn g l) = fromRet1 (.fn g l)) := by
  refine ⟨?_, ?_, ?_, ?_, ?_, ?_, ?_, ?_, ?_, ?_, ?_, ?_, ?_, ?_, ?_, ?_, ?_, ?_, ?_, ?_⟩ <;> intros <;> rfl

theorem toRet_eqs : (∀ (np : Nat) (L : List (Nat × List AV)) (all : List AV) (k : IntKind) (n : Int), toRet np L all (.i k n) = some (.i k n)) ∧
    (∀ (np : Nat) (L : List (Nat × List AV)) (all : List AV) (t : Bool), toRet np L all (.b t) = some (.b t)) ∧
    (∀ (np : Nat) (L : List (Nat × List AV)) (all : List AV) (t : ByteArray), toRet np L all (.s t) = some (.s t)) ∧
    (∀ (np : Nat) (L : List (Nat × List AV)) (all : List AV) , toRet np L all .nl = some .nl) ∧
    (∀ (np : Nat) (L : List (Nat × List AV)) (all : List AV) , toRet np L all .np = some .np) ∧
    (∀ (np : Nat) (L : List (Nat × List AV)) (all : List AV) , toRet np L all .nf = some .nf) ∧
    (∀ (np : Nat) (L : List (Nat × List AV)) (all : List AV) , toRet np L all .un = none) ∧
    (∀ (np : Nat) (L : List (Nat × List AV)) (all : List AV) , toRet np L all .gone = none) ∧
    (∀ (np : Nat) (L : List (Nat × List AV)) (all : List AV) (g : Nat), toRet np L all (.er g) = some (.er g)) ∧
    (∀ (np : Nat) (L : List (Nat × List AV)) (all : List AV) (cs : List AV) (n : Nat), toRet np L all (.sl cs n) = some (.sl cs n)) ∧
    (∀ (np : Nat) (L : List (Nat × List AV)) (all : List AV) , toRet np L all .z = some .z) ∧
    (∀ (np : Nat) (L : List (Nat × List AV)) (all : List AV) (cs : List AV) (n sz : Nat), toRet np L all (.os cs n sz) = none) ∧
    (∀ (np : Nat) (L : List (Nat × List AV)) (all : List AV) (cs : List AV), toRet np L all (.op cs) = none) ∧
    (∀ (np : Nat) (L : List (Nat × List AV)) (all : List AV) (cs : List AV), toRet np L all (.ag cs) = some (.ag cs)) ∧
    (∀ (np : Nat) (L : List (Nat × List AV)) (all : List AV) (l : List AV), toRet np L all (.tp l) = none) ∧
    (∀ (np : Nat) (L : List (Nat × List AV)) (all : List AV) (cs : List AV) (j : Nat), toRet np L all (.el cs j) = some (.el cs j)) ∧
    (∀ (np : Nat) (L : List (Nat × List AV)) (all : List AV) (g : Nat), toRet np L all (.gl g) = none) ∧
    (∀ (np : Nat) (L : List (Nat × List AV)) (all : List AV) (g : Nat), toRet np L all (.fn g []) = some (.fn g [])) := by
  refine ⟨?_, ?_, ?_, ?_, ?_, ?_, ?_, ?_, ?_, ?_, ?_, ?_, ?_, ?_, ?_, ?_, ?_, ?_⟩ <;> intros <;> rfl

theorem lentOf_eqs : (∀ (L : List (Nat × List AV)) (j : Nat), lentOf L j [] = some []) ∧
    (∀ (L : List (Nat × List AV)) (j : Nat) (k : IntKind) (n : Int) (r : List AV), lentOf L j ((.i k n) :: r) = lentOf L (j + 1) r) ∧
    (∀ (L : List (Nat × List AV)) (j : Nat) (t : Bool) (r : List AV), lentOf L j ((.b t) :: r) = lentOf L (j + 1) r) ∧
    (∀ (L : List (Nat × List AV)) (j : Nat) (t : ByteArray) (r : List AV), lentOf L j ((.s t) :: r) = lentOf L (j + 1) r) ∧
    (∀ (L : List (Nat × List AV)) (j : Nat)  (r : List AV), lentOf L j (.nl :: r) = lentOf L (j + 1) r) ∧
    (∀ (L : List (Nat × List AV)) (j : Nat)  (r : List AV), lentOf L j (.np :: r) = lentOf L (j + 1) r) ∧
    (∀ (L : List (Nat × List AV)) (j : Nat)  (r : List AV), lentOf L j (.nf :: r) = lentOf L (j + 1) r) ∧
    (∀ (L : List (Nat × List AV)) (j : Nat)  (r : List AV), lentOf L j (.un :: r) = lentOf L (j + 1) r) ∧
    (∀ (L : List (Nat × List AV)) (j : Nat)  (r : List AV), lentOf L j (.gone :: r) = lentOf L (j + 1) r) ∧
    (∀ (L : List (Nat × List AV)) (j : Nat) (g : Nat) (r : List AV), lentOf L j ((.er g) :: r) = lentOf L (j + 1) r) ∧
    (∀ (L : List (Nat × List AV)) (j : Nat) (cs : List AV) (n : Nat) (r : List AV), lentOf L j ((.sl cs n) :: r) = lentOf L (j + 1) r) ∧
    (∀ (L : List (Nat × List AV)) (j : Nat)  (r : List AV), lentOf L j (.z :: r) = lentOf L (j + 1) r) ∧
    (∀ (L : List (Nat × List AV)) (j : Nat) (cs : List AV) (n sz : Nat) (r : List AV), lentOf L j ((.os cs n sz) :: r) = lentOf L (j + 1) r) ∧
    (∀ (L : List (Nat × List AV)) (j : Nat) (cs : List AV) (r : List AV), lentOf L j ((.ag cs) :: r) = lentOf L (j + 1) r) ∧
    (∀ (L : List (Nat × List AV)) (j : Nat) (l : List AV) (r : List AV), lentOf L j ((.tp l) :: r) = lentOf L (j + 1) r) ∧
    (∀ (L : List (Nat × List AV)) (j : Nat) (e o : Nat) (r : List AV), lentOf L j ((.rf e o) :: r) = lentOf L (j + 1) r) ∧
    (∀ (L : List (Nat × List AV)) (j : Nat) (e o n sz : Nat) (r : List AV), lentOf L j ((.rs e o n sz) :: r) = lentOf L (j + 1) r) ∧
    (∀ (L : List (Nat × List AV)) (j : Nat) (cs : List AV) (j : Nat) (r : List AV), lentOf L j ((.el cs j) :: r) = lentOf L (j + 1) r) ∧
    (∀ (L : List (Nat × List AV)) (j : Nat) (g : Nat) (r : List AV), lentOf L j ((.gl g) :: r) = lentOf L (j + 1) r) ∧
    (∀ (L : List (Nat × List AV)) (j g : Nat) (l r : List AV), lentOf L j (.fn g l :: r) = lentOf L (j + 1) r) := by
  refine ⟨?_, ?_, ?_, ?_, ?_, ?_, ?_, ?_, ?_, ?_, ?_, ?_, ?_, ?_, ?_, ?_, ?_, ?_, ?_, ?_⟩ <;> intros <;> rfl

theorem countR_eqs : (∀ (d : Nat), countR d [] = 0) ∧
    (∀ (d : Nat) (k : IntKind) (n : Int) (r : List AV), countR d ((.i k n) :: r) = countR d r) ∧
    (∀ (d : Nat) (t : Bool) (r : List AV), countR d ((.b t) :: r) = countR d r) ∧
    (∀ (d : Nat) (t : ByteArray) (r : List AV), countR d ((.s t) :: r) = countR d r) ∧
    (∀ (d : Nat)  (r : List AV), countR d (.nl :: r) = countR d r) ∧
    (∀ (d : Nat)  (r : List AV), countR d (.np :: r) = countR d r) ∧
    (∀ (d : Nat)  (r : List AV), countR d (.nf :: r) = countR d r) ∧
    (∀ (d : Nat)  (r : List AV), countR d (.un :: r) = countR d r) ∧
    (∀ (d : Nat)  (r : List AV), countR d (.gone :: r) = countR d r) ∧
    (∀ (d : Nat) (g : Nat) (r : List AV), countR d ((.er g) :: r) = countR d r) ∧
    (∀ (d : Nat) (cs : List AV) (n : Nat) (r : List AV), countR d ((.sl cs n) :: r) = countR d r) ∧
    (∀ (d : Nat)  (r : List AV), countR d (.z :: r) = countR d r) ∧
    (∀ (d : Nat) (cs : List AV) (n sz : Nat) (r : List AV), countR d ((.os cs n sz) :: r) = countR d r) ∧
    (∀ (d : Nat) (cs : List AV) (r : List AV), countR d ((.op cs) :: r) = countR d r) ∧
    (∀ (d : Nat) (cs : List AV) (r : List AV), countR d ((.ag cs) :: r) = countR d r) ∧
    (∀ (d : Nat) (l : List AV) (r : List AV), countR d ((.tp l) :: r) = countR d r) ∧
    (∀ (d : Nat) (e o : Nat) (r : List AV), countR d ((.rf e o) :: r) = (bif Nat.beq e d then 1 else 0) + countR d r) ∧
    (∀ (d : Nat) (e o n sz : Nat) (r : List AV), countR d ((.rs e o n sz) :: r) = (bif Nat.beq e d then 1 else 0) + countR d r) ∧
    (∀ (d : Nat) (cs : List AV) (j : Nat) (r : List AV), countR d ((.el cs j) :: r) = countR d r) ∧
    (∀ (d : Nat) (g : Nat) (r : List AV), countR d ((.gl g) :: r) = countR d r) ∧
    (∀ (d g : Nat) (l r : List AV), countR d (.fn g l :: r) = countR d r) := by
  refine ⟨?_, ?_, ?_, ?_, ?_, ?_, ?_, ?_, ?_, ?_, ?_, ?_, ?_, ?_, ?_, ?_, ?_, ?_, ?_, ?_, ?_⟩ <;> intros <;> rfl

theorem hasSl1_eqs : (∀ (k : IntKind) (n : Int), hasSl1 (.i k n) = false) ∧
    (∀ (t : Bool), hasSl1 (.b t) = false) ∧
    (∀ (t : ByteArray), hasSl1 (.s t) = false) ∧
    (hasSl1 .nl = false) ∧
    (hasSl1 .np = false) ∧
    (hasSl1 .nf = false) ∧
    (hasSl1 .un = false) ∧
    (hasSl1 .gone = false) ∧
    (∀ (g : Nat), hasSl1 (.er g) = false) ∧
    (∀ (cs : List AV) (n : Nat), hasSl1 (.sl cs n) = true) ∧
    (hasSl1 .z = false) ∧
    (∀ (cs : List AV) (n sz : Nat), hasSl1 (.os cs n sz) = false) ∧
    (∀ (cs : List AV), hasSl1 (.op cs) = false) ∧
    (∀ (cs : List AV), hasSl1 (.ag cs) = true) ∧
    (∀ (l : List AV), hasSl1 (.tp l) = true) ∧
    (∀ (e o : Nat), hasSl1 (.rf e o) = false) ∧
    (∀ (e o n sz : Nat), hasSl1 (.rs e o n sz) = false) ∧
    (∀ (cs : List AV) (j : Nat), hasSl1 (.el cs j) = true) ∧
    (∀ (g : Nat), hasSl1 (.gl g) = false) ∧
    (∀ (g : Nat) (l : List AV), hasSl1 (.fn g l) = false) := by
  refine ⟨?_, ?_, ?_, ?_, ?_, ?_, ?_, ?_, ?_, ?_, ?_, ?_, ?_, ?_, ?_, ?_, ?_, ?_, ?_, ?_⟩ <;> intros <;> rfl

theorem hasSl2_eqs : (∀ (k : IntKind) (n : Int), hasSl2 (.i k n) = hasSl1 (.i k n)) ∧
    (∀ (t : Bool), hasSl2 (.b t) = hasSl1 (.b t)) ∧
    (∀ (t : ByteArray), hasSl2 (.s t) = hasSl1 (.s t)) ∧
    (hasSl2 .nl = hasSl1 .nl) ∧
    (hasSl2 .np = hasSl1 .np) ∧
    (hasSl2 .nf = hasSl1 .nf) ∧
    (hasSl2 .un = hasSl1 .un) ∧
    (hasSl2 .gone = hasSl1 .gone) ∧
    (∀ (g : Nat), hasSl2 (.er g) = hasSl1 (.er g)) ∧
    (∀ (cs : List AV) (n : Nat), hasSl2 (.sl cs n) = hasSl1 (.sl cs n)) ∧
    (hasSl2 .z = hasSl1 .z) ∧
    (∀ (cs : List AV) (n sz : Nat), hasSl2 (.os cs n sz) = hasSlL cs) ∧
    (∀ (cs : List AV), hasSl2 (.op cs) = hasSlL cs) ∧
    (∀ (cs : List AV), hasSl2 (.ag cs) = hasSl1 (.ag cs)) ∧
    (∀ (l : List AV), hasSl2 (.tp l) = hasSl1 (.tp l)) ∧
    (∀ (e o : Nat), hasSl2 (.rf e o) = hasSl1 (.rf e o)) ∧
    (∀ (e o n sz : Nat), hasSl2 (.rs e o n sz) = hasSl1 (.rs e o n sz)) ∧
    (∀ (cs : List AV) (j : Nat), hasSl2 (.el cs j) = hasSl1 (.el cs j)) ∧
    (∀ (g : Nat), hasSl2 (.gl g) = hasSl1 (.gl g)) ∧
    (∀ (g : Nat) (l : List AV), hasSl2 (.fn g l) = false) := by
  refine ⟨?_, ?_, ?_, ?_, ?_, ?_, ?_, ?_, ?_, ?_, ?_, ?_, ?_, ?_, ?_, ?_, ?_, ?_, ?_, ?_⟩ <;> intros <;> rfl

theorem hasSl_eqs : (∀ (k : IntKind) (n : Int), hasSl (.i k n) = hasSl2 (.i k n)) ∧
    (∀ (t : Bool), hasSl (.b t) = hasSl2 (.b t)) ∧
    (∀ (t : ByteArray), hasSl (.s t) = hasSl2 (.s t)) ∧
    (hasSl .nl = hasSl2 .nl) ∧
    (hasSl .np = hasSl2 .np) ∧
    (hasSl .nf = hasSl2 .nf) ∧
    (hasSl .un = hasSl2 .un) ∧
    (hasSl .gone = hasSl2 .gone) ∧
    (∀ (g : Nat), hasSl (.er g) = hasSl2 (.er g)) ∧
    (∀ (cs : List AV) (n : Nat), hasSl (.sl cs n) = hasSl2 (.sl cs n)) ∧
    (hasSl .z = hasSl2 .z) ∧
    (∀ (cs : List AV) (n sz : Nat), hasSl (.os cs n sz) = hasSl2 (.os cs n sz)) ∧
    (∀ (cs : List AV), hasSl (.op cs) = hasSl2 (.op cs)) ∧
    (∀ (cs : List AV), hasSl (.ag cs) = hasSl2 (.ag cs)) ∧
    (∀ (l : List AV), hasSl (.tp l) = hasSl2L l) ∧
    (∀ (e o : Nat), hasSl (.rf e o) = hasSl2 (.rf e o)) ∧
    (∀ (e o n sz : Nat), hasSl (.rs e o n sz) = hasSl2 (.rs e o n sz)) ∧
    (∀ (cs : List AV) (j : Nat), hasSl (.el cs j) = hasSl2 (.el cs j)) ∧
    (∀ (g : Nat), hasSl (.gl g) = hasSl2 (.gl g)) ∧
    (∀ (g : Nat) (l : List AV), hasSl (.fn g l) = false) := by
  refine ⟨?_, ?_, ?_, ?_, ?_, ?_, ?_, ?_, ?_, ?_, ?_, ?_, ?_, ?_, ?_, ?_, ?_, ?_, ?_, ?_⟩ <;> intros <;> rfl

theorem toRet_rs (np : Nat) (L : List (Nat × List AV)) (all : List AV) (d off n sz : Nat) : toRet np L all (.rs d off n sz) = toRet np L all (.rs d off n sz) := rfl
theorem cellsOf_ag1 (a : AV) : cellsOf 1 (.ag [a]) = some [a] := rfl
theorem cellsOf_ag2 (a b : AV) : cellsOf 2 (.ag [a, b]) = some [a, b] := rfl
theorem cellsOf_ag3 (a b c : AV) : cellsOf 3 (.ag [a, b, c]) = some [a, b, c] := rfl
theorem cellsOf_ag4 (a b c d : AV) : cellsOf 4 (.ag [a, b, c, d]) = some [a, b, c, d] := rfl
theorem cellsOf_ag5 (a b c d e : AV) : cellsOf 5 (.ag [a, b, c, d, e]) = some [a, b, c, d, e] := rfl
theorem partV_2 (a b : AV) : partV [a, b] 0 (some 2) = some (.ag [a, b]) := rfl
theorem partV_3 (a b c : AV) : partV [a, b, c] 0 (some 3) = some (.ag [a, b, c]) := rfl
theorem partV_4 (a b c d : AV) : partV [a, b, c, d] 0 (some 4) = some (.ag [a, b, c, d]) := rfl
theorem partV_5 (a b c d e : AV) : partV [a, b, c, d, e] 0 (some 5) = some (.ag [a, b, c, d, e]) := rfl

/-- A result that is a row. -/
def ownR (np : Nat) (row : Option (List AV)) (d off n sz c : Nat) : Option AV :=
  match row with
  | some cs => bif Nat.blt d np then none else
        bif Nat.beq off 0 && (Nat.beq cs.length (n * sz) && Nat.beq c 1) then some (.os cs n sz) else
        bif Nat.ble (off + n * sz) cs.length then some (.sl ((cs.drop off).take (n * sz)) n) else none
  | none => none
theorem toRet_own (np : Nat) (L : List (Nat × List AV)) (all : List AV) (d off n sz : Nat) : toRet np L all (.rs d off n sz) = ownR np (look L d) d off n sz (countR d all) := rfl
theorem ownR_of {np d n sz : Nat} {cs : List AV} (h1 : np ≤ d) (h2 : cs.length = n * sz) : ownR np (some cs) d 0 n sz 1 = some (.os cs n sz) := by
  have e1 : Nat.blt d np = false := by rw [← Bool.not_eq_true, Nat.blt_eq]; omega
  simp [ownR, e1, h2]
/-- An argument that is a row, seen. -/
def seenR (row : Option (List AV)) (off n sz : Nat) : Option AV :=
  match row with
  | some cs => bif Nat.ble (off + n * sz) cs.length then some (.sl ((cs.drop off).take (n * sz)) n) else none
  | none => none
theorem toArg_rs (L : List (Nat × List AV)) (d off n sz : Nat) : toArg L (.rs d off n sz) = seenR (look L d) off n sz := rfl
theorem seenR_all {cs : List AV} {n sz : Nat} (h : cs.length = n * sz) : seenR (some cs) 0 n sz = some (.sl cs n) := by
  simp [seenR, ← h, show Nat.ble cs.length cs.length = true by simp]
theorem seenR_part {cs : List AV} {off n sz : Nat} (h : off + n * sz ≤ cs.length) (h0 : 0 < off ∨ n * sz < cs.length) : seenR (some cs) off n sz = some (.sl ((cs.drop off).take (n * sz)) n) := by
  have : Nat.ble (off + n * sz) cs.length = true := by rw [Nat.ble_eq]; exact h
  simp [seenR, this]

/-- Append to a row. -/
def appS (S : St) (_ : Tg S) (t sz bytes : Nat) (x y : AV) : Option St :=
  match x with
  | .rs d 0 n sz' =>
    (match look S.l d, srcV S.l sz d y with
     | some cs, some (vs, m) =>
       bif Nat.beq sz sz' && (Nat.beq cs.length (n * sz) && decide ((n + m) * bytes ≤ 140737488355328)) then
         some { s := put (mapS (kill1 d) S.s) t (.rs d 0 (n + m) sz), l := put (del S.l d) d (cs ++ vs) } else none
     | _, _ => none)
  | .z =>
    (match srcV S.l sz t y with
     | some (vs, m) => bif decide (m * bytes ≤ 140737488355328) then some (S.root t vs (.rs t 0 m sz)) else none
     | none => none)
  | _ => none
theorem sv_app (call : CallF) (S : St) (t sz bytes : Nat) (x y : Operand) : step call ⟨some t, .app sz bytes x y, none⟩ S = appS S () t sz bytes (evalO S.s x) (evalO S.s y) := by
  rw [st_app]; simp only [stepK, appS]
  cases hx : evalO S.s x <;> first | rfl | skip
  rename_i d o n sz'
  cases o <;> rfl
def appR (s : List (Nat × AV)) (l : List (Nat × List AV)) (_ : Tg2 s l) (t d n sz bytes : Nat) (row : Option (List AV)) (src : Option (List AV × Nat)) : Option St :=
  match row, src with
  | some cs, some (vs, m) => bif (Nat.beq cs.length (n * sz) && decide ((n + m) * bytes ≤ 140737488355328)) then
         some { s := put (mapS (kill1 d) s) t (.rs d 0 (n + m) sz), l := put (del l d) d (cs ++ vs) } else none
  | _, _ => none
theorem appS_rs (s : List (Nat × AV)) (l : List (Nat × List AV)) (t sz bytes d n : Nat) (y : AV) : appS ⟨s, l⟩ () t sz bytes (.rs d 0 n sz) y = appR s l () t d n sz bytes (look l d) (srcV l sz d y) := by
  simp only [appS, appR]
  cases look l d <;> cases srcV l sz d y <;> simp
theorem appR_of {s : List (Nat × AV)} {l : List (Nat × List AV)} {t d n sz bytes m : Nat} {cs vs : List AV} (h1 : cs.length = n * sz) (h2 : (n + m) * bytes ≤ 140737488355328) : appR s l () t d n sz bytes (some cs) (some (vs, m)) = some ⟨put (mapS (kill1 d) s) t (.rs d 0 (n + m) sz), put (del l d) d (cs ++ vs)⟩ := by
  simp [appR, h1, h2]
theorem srcV_sl {l : List (Nat × List AV)} {sz d m : Nat} {cs : List AV} (h : cs.length = m * sz) : srcV l sz d (.sl cs m) = some (cs, m) := by simp [srcV, h]
theorem srcV_z (l : List (Nat × List AV)) (sz d : Nat) : srcV l sz d .z = some ([], 0) := rfl
theorem appS_z {s : List (Nat × AV)} {l : List (Nat × List AV)} {t sz bytes m : Nat} {vs : List AV} {y : AV} (h : srcV l sz t y = some (vs, m)) (h2 : m * bytes ≤ 140737488355328) : appS ⟨s, l⟩ () t sz bytes .z y = some (St.root ⟨s, l⟩ t vs (.rs t 0 m sz)) := by
  simp [appS, h, h2]
def nilS (S : St) (_ : Tg S) (d sz : Nat) (x : AV) : Option St := match x with | .z => some (S.root d [] (.rs d 0 0 sz)) | _ => none
theorem sv_nilR (call : CallF) (S : St) (d sz : Nat) (x : Operand) : step call ⟨some d, .nilR sz x, none⟩ S = nilS S () d sz (evalO S.s x) := by
  rw [st_nilR]; simp only [stepK, nilS]
  cases evalO S.s x <;> rfl
theorem nilS_z (S : St) (d sz : Nat) : nilS S () d sz .z = some (S.root d [] (.rs d 0 0 sz)) := rfl
def bslS (S : St) (_ : Tg S) (d n sz : Nat) (o : Option (List AV)) : Option St := match o with | some cs => some (S.root d cs (.rs d 0 n sz)) | none => none
theorem sv_bslR (call : CallF) (S : St) (d n : Nat) (zero : List AV) (parts : List (Nat × Nat × Operand)) : step call ⟨some d, .bslR n zero parts, none⟩ S = bslS S () d n zero.length (fillV (evalO S.s) parts (zrep zero n)) := by
  rw [st_bslR]; simp only [stepK, bslS]
  cases fillV (evalO S.s) parts (zrep zero n) <;> rfl
theorem bslS_some (S : St) (d n sz : Nat) (cs : List AV) : bslS S () d n sz (some cs) = some (S.root d cs (.rs d 0 n sz)) := rfl

/-! ### Two operands -/

def binI (op : BinOp) (k k' : IntKind) (a c : Int) : Option AV :=
  match op with
  | .shl => shiftV .shl k a c
  | .shr => shiftV .shr k a c
  | op => bif decide (k = k') then intV op k a c else none
theorem binV_i (ek : EqKind) (op : BinOp) (k k' : IntKind) (a c : Int) : binV ek op (.i k a) (.i k' c) = binI op k k' a c := by
  cases op <;> rfl
theorem binI_shl (k k' : IntKind) (a c : Int) : binI .shl k k' a c = shiftV .shl k a c := rfl
theorem binI_shr (k k' : IntKind) (a c : Int) : binI .shr k k' a c = shiftV .shr k a c := rfl
theorem binI_same (op : BinOp) (k : IntKind) (a c : Int) (h1 : op ≠ .shl) (h2 : op ≠ .shr) : binI op k k a c = intV op k a c := by
  cases op <;> simp [binI] <;> contradiction
theorem binI_eqs : (∀ k a c, binI .add k k a c = some (.i k (k.wrap (a + c)))) ∧ (∀ k a c, binI .sub k k a c = some (.i k (k.wrap (a - c)))) ∧ (∀ k a c, binI .mul k k a c = some (.i k (k.wrap (a * c)))) ∧
    (∀ k a c, binI .quo k k a c = intV .quo k a c) ∧ (∀ k a c, binI .rem k k a c = intV .rem k a c) ∧
    (∀ k a c, binI .eql k k a c = some (.b (decide (a = c)))) ∧ (∀ k a c, binI .neq k k a c = some (.b (!decide (a = c)))) ∧ (∀ k a c, binI .lss k k a c = some (.b (decide (a < c)))) ∧ (∀ k a c, binI .leq k k a c = some (.b (decide (a ≤ c)))) ∧
    (∀ k a c, binI .gtr k k a c = some (.b (decide (c < a)))) ∧ (∀ k a c, binI .geq k k a c = some (.b (decide (c ≤ a)))) ∧
    (∀ k a c, binI .and k k a c = bitV .and k a c) ∧ (∀ k a c, binI .or k k a c = bitV .or k a c) ∧ (∀ k a c, binI .xor k k a c = bitV .xor k a c) ∧ (∀ k a c, binI .andNot k k a c = bitV .andNot k a c) := by
  refine ⟨?_, ?_, ?_, ?_, ?_, ?_, ?_, ?_, ?_, ?_, ?_, ?_, ?_, ?_, ?_⟩ <;> intros <;> simp [binI, intV]
/-- A slice that has elements is not nil. -/
theorem binV_slcE {cs : List AV} {n : Nat} {y : AV} (h : 0 < cs.length) : binV .slc .eql (.sl cs n) y = some (.b false) := by
  match cs, h with
  | c :: cs, _ => cases y <;> rfl
theorem binV_slcN {cs : List AV} {n : Nat} {y : AV} (h : 0 < cs.length) : binV .slc .neq (.sl cs n) y = some (.b true) := by
  match cs, h with
  | c :: cs, _ => cases y <;> rfl
theorem binV_eqs : (∀ x y, binV .bool .eql (.b x) (.b y) = some (.b (x == y))) ∧ (∀ x y, binV .bool .neq (.b x) (.b y) = some (.b (!(x == y)))) ∧
    (∀ g h, binV .iface .eql (.er g) (.er h) = some (.b (Nat.beq g h))) ∧ (∀ g h, binV .ifaceC .eql (.er g) (.er h) = some (.b (Nat.beq g h))) ∧ (∀ g h, binV .iface .neq (.er g) (.er h) = some (.b (!Nat.beq g h))) ∧ (∀ g h, binV .ifaceC .neq (.er g) (.er h) = some (.b (!Nat.beq g h))) ∧
    (∀ g, binV .iface .eql (.er g) .nl = some (.b false)) ∧ (∀ g, binV .ifaceC .eql (.er g) .nl = some (.b false)) ∧ (∀ g, binV .iface .neq (.er g) .nl = some (.b true)) ∧ (∀ g, binV .ifaceC .neq (.er g) .nl = some (.b true)) ∧
    (∀ g, binV .iface .eql .nl (.er g) = some (.b false)) ∧ (∀ g, binV .ifaceC .eql .nl (.er g) = some (.b false)) ∧ (∀ g, binV .iface .neq .nl (.er g) = some (.b true)) ∧ (∀ g, binV .ifaceC .neq .nl (.er g) = some (.b true)) ∧
    (binV .ifaceC .eql .nl .nl = some (.b true)) ∧ (binV .ifaceC .neq .nl .nl = some (.b false)) ∧
    (binV .ptr .eql .np .np = some (.b true)) ∧ (binV .ptr .neq .np .np = some (.b false)) ∧ (∀ d o, binV .ptr .eql (.rf d o) .np = some (.b false)) ∧ (∀ d o, binV .ptr .neq (.rf d o) .np = some (.b true)) ∧
    (∀ cs o, binV .ptr .eql (.el cs o) .np = some (.b false)) ∧ (∀ cs o, binV .ptr .neq (.el cs o) .np = some (.b true)) := by
  refine ⟨?_, ?_, ?_, ?_, ?_, ?_, ?_, ?_, ?_, ?_, ?_, ?_, ?_, ?_, ?_, ?_, ?_, ?_, ?_, ?_, ?_, ?_⟩ <;> intros <;> rfl

/-! ### Calls of values -/

def callT (call : CallF) (l : List (Nat × List AV)) (args : List AV) (_ : Tg2 call l) (f : AV) : Option AV :=
  match f with
  | .fn f [] =>
    (match toArgs l args with
     | some vs =>
       (match call f vs with
        | some ⟨r, []⟩ => bif anyRs args && hasSl r then none else fromRet r
        | _ => none)
     | none => none)
  | _ => none
theorem st_callT (call : CallF) (S : St) (dst : Option Nat) (t : Nat) (l : List Operand) : step call ⟨dst, .call (.tmp t) l, none⟩ S = optPut S dst () (callT call S.l (evalL (evalO S.s) l) () (get S.s t)) := by
  show (readV call (evalO S.s) S.l (.call (.tmp t) l)).map (S.putD dst) = _
  simp only [readV, evalO, callT]
  rfl
theorem callT_fn (call : CallF) (l : List (Nat × List AV)) (args : List AV) (f : Nat) : callT call l args () (.fn f []) = (match toArgs l args with
     | some vs =>
       (match call f vs with
        | some ⟨r, []⟩ => bif anyRs args && hasSl r then none else fromRet r
        | _ => none)
     | none => none) := rfl

theorem zrep_eqs : (∀ a, zrep [a] 1 = [a]) ∧ (∀ a, zrep [a] 2 = [a, a]) ∧ (∀ a, zrep [a] 3 = [a, a, a]) ∧ (∀ a, zrep [a] 4 = [a, a, a, a]) ∧ (∀ a, zrep [a] 5 = [a, a, a, a, a]) ∧ (∀ a, zrep [a] 6 = [a, a, a, a, a, a]) ∧ (∀ a, zrep [a] 7 = [a, a, a, a, a, a, a]) ∧ (∀ a, zrep [a] 8 = [a, a, a, a, a, a, a, a]) ∧ (∀ a, zrep [a] 9 = [a, a, a, a, a, a, a, a, a]) ∧ (∀ a, zrep [a] 10 = [a, a, a, a, a, a, a, a, a, a]) ∧ (∀ a, zrep [a] 11 = [a, a, a, a, a, a, a, a, a, a, a]) ∧ (∀ a, zrep [a] 12 = [a, a, a, a, a, a, a, a, a, a, a, a]) ∧ (∀ a, zrep [a] 13 = [a, a, a, a, a, a, a, a, a, a, a, a, a]) ∧ (∀ a, zrep [a] 14 = [a, a, a, a, a, a, a, a, a, a, a, a, a, a]) ∧ (∀ a, zrep [a] 15 = [a, a, a, a, a, a, a, a, a, a, a, a, a, a, a]) ∧ (∀ a, zrep [a] 16 = [a, a, a, a, a, a, a, a, a, a, a, a, a, a, a, a]) := by
  refine ⟨?_, ?_, ?_, ?_, ?_, ?_, ?_, ?_, ?_, ?_, ?_, ?_, ?_, ?_, ?_, ?_⟩ <;> intros <;> rfl

theorem setR2 (a b c d : AV) : setR (some [a, b]) 0 2 (some [c, d]) = some [c, d] := rfl
theorem setR3 (a b c d e f : AV) : setR (some [a, b, c]) 0 3 (some [d, e, f]) = some [d, e, f] := rfl

/-! ### Calls that lend, or give back what is to be written -/

def lendsC (v : AV) (o : Option (List AV × List Nat)) : Option (List AV × List Nat) := match o with | some (vs, ds) => some (v :: vs, ds) | none => none
theorem lendsC_some (v : AV) (vs : List AV) (ds : List Nat) : lendsC v (some (vs, ds)) = some (v :: vs, ds) := rfl
theorem lends_nil (l : List (Nat × List AV)) : lends l [] = some ([], []) := rfl
theorem lends_eqs : (∀ (l : List (Nat × List AV)) (k : IntKind) (n : Int) (r : List AV), lends l ((.i k n) :: r) = lendsC (.i k n) (lends l r)) ∧
    (∀ (l : List (Nat × List AV)) (t : Bool) (r : List AV), lends l ((.b t) :: r) = lendsC (.b t) (lends l r)) ∧
    (∀ (l : List (Nat × List AV)) (t : ByteArray) (r : List AV), lends l ((.s t) :: r) = lendsC (.s t) (lends l r)) ∧
    (∀ (l : List (Nat × List AV))  (r : List AV), lends l (.nl :: r) = lendsC .nl (lends l r)) ∧
    (∀ (l : List (Nat × List AV))  (r : List AV), lends l (.np :: r) = lendsC .np (lends l r)) ∧
    (∀ (l : List (Nat × List AV))  (r : List AV), lends l (.nf :: r) = lendsC .nf (lends l r)) ∧
    (∀ (l : List (Nat × List AV)) (g : Nat) (r : List AV), lends l ((.er g) :: r) = lendsC (.er g) (lends l r)) ∧
    (∀ (l : List (Nat × List AV)) (cs : List AV) (n : Nat) (r : List AV), lends l ((.sl cs n) :: r) = lendsC (.sl cs n) (lends l r)) ∧
    (∀ (l : List (Nat × List AV))  (r : List AV), lends l (.z :: r) = lendsC .z (lends l r)) ∧
    (∀ (l : List (Nat × List AV)) (cs : List AV) (r : List AV), lends l ((.ag cs) :: r) = lendsC (.ag cs) (lends l r)) ∧
    (∀ (l : List (Nat × List AV)) (cs : List AV) (j : Nat) (r : List AV), lends l ((.el cs j) :: r) = lendsC (.el cs j) (lends l r)) ∧
    (∀ (l : List (Nat × List AV)) (g : Nat) (r : List AV), lends l ((.fn g []) :: r) = lendsC (.fn g []) (lends l r)) := by
  refine ⟨?_, ?_, ?_, ?_, ?_, ?_, ?_, ?_, ?_, ?_, ?_, ?_⟩ <;> intros <;> simp only [lends, toArg, lendsC] <;> (cases lends _ _ <;> rfl)
theorem fl_lends (l : List (Nat × List AV)) {x : AV} (h : x.flat = true) (r : List AV) : lends l (x :: r) = lendsC x (lends l r) := by
  cases x <;> first | (cases h; done) | (simp only [lends, toArg, lendsC]; cases lends _ _ <;> rfl)
def lendsR (d : Nat) (row : Option (List AV)) (o : Option (List AV × List Nat)) : Option (List AV × List Nat) :=
  match row, o with | some cs, some (vs, ds) => bif memb ds d then none else some (.op cs :: vs, d :: ds) | _, _ => none
theorem lends_rf (l : List (Nat × List AV)) (d : Nat) (r : List AV) : lends l (.rf d 0 :: r) = lendsR d (look l d) (lends l r) := by
  simp only [lends, lendsR]; cases look l d <;> cases lends l r <;> rfl
theorem lendsR_some (d : Nat) (cs : List AV) (vs : List AV) (ds : List Nat) : lendsR d (some cs) (some (vs, ds)) = bif memb ds d then none else some (.op cs :: vs, d :: ds) := rfl
def lendsS (row : Option AV) (o : Option (List AV × List Nat)) : Option (List AV × List Nat) :=
  match row, o with | some v, some (vs, ds) => some (v :: vs, ds) | _, _ => none
theorem lends_rs (l : List (Nat × List AV)) (d o n sz : Nat) (r : List AV) : lends l (.rs d o n sz :: r) = lendsS (toArg l (.rs d o n sz)) (lends l r) := by
  simp only [lends, lendsS]; cases toArg l (.rs d o n sz) <;> cases lends l r <;> rfl
theorem lendsS_some (v : AV) (vs : List AV) (ds : List Nat) : lendsS (some v) (some (vs, ds)) = some (v :: vs, ds) := rfl
theorem seesAny_no : ∀ (as : List AV), seesAny [] as = false
  | [] => rfl
  | x :: r => by cases x <;> simp [seesAny, memb, seesAny_no r]
/-- Behind a call. -/
def afterK (S : St) (dst : Option Nat) (own : List (Nat × Nat)) (_ : Tg S) (l' : Option (List (Nat × List AV))) (r : AV) : Option St :=
  match l' with
  | some l' => (match dst with
                | some d => (match recv { S with l := l' } d own r with | some (S2, v) => some (S2.putD (some d) v) | none => none)
                | none => some { S with l := l' })
  | none => none
def callK3 (S : St) (dst : Option Nat) (own : List (Nat × Nat)) (_ : Tg S) (as : List AV) (ds : List Nat) (r : Option Ret) : Option St :=
  match r with
  | some ⟨r, lent⟩ => bif anyRs as && (hasSl r || hasSlLL lent) then none else afterK S dst own () (putAll S.l ds lent) r
  | none => none
def callK2 (call : CallF) (S : St) (dst : Option Nat) (own : List (Nat × Nat)) (_ : Tg2 call S) (f : Nat) (as : List AV) (o : Option (List AV × List Nat)) : Option St :=
  match o with
  | some (vs, ds) => bif seesAny ds as then none else callK3 S dst own () as ds (call f vs)
  | none => none
def callK1 (call : CallF) (S : St) (dst : Option Nat) (own : List (Nat × Nat)) (_ : Tg2 call S) (xs : List AV) (f : AV) : Option St :=
  match f with
  | .fn f caps => callK2 call S dst own () f (xs ++ caps) (lends S.l (xs ++ caps))
  | _ => none
theorem sv_callK (call : CallF) (S : St) (dst : Option Nat) (f : Operand) (xs : List Operand) (own : List (Nat × Nat)) : step call ⟨dst, .callK f xs own, none⟩ S = callK1 call S dst own () (evalL (evalO S.s) xs) (evalO S.s f) := by
  rw [st_callK]
  simp only [stepK, callK1, callK2, callK3, afterK]
  cases evalO S.s f <;> rfl
theorem callK1_fn (call : CallF) (S : St) (dst : Option Nat) (own : List (Nat × Nat)) (xs : List AV) (f : Nat) (caps : List AV) : callK1 call S dst own () xs (.fn f caps) = callK2 call S dst own () f (xs ++ caps) (lends S.l (xs ++ caps)) := rfl
theorem callK2_some (call : CallF) (S : St) (dst : Option Nat) (own : List (Nat × Nat)) (f : Nat) (as vs : List AV) (ds : List Nat) : callK2 call S dst own () f as (some (vs, ds)) = bif seesAny ds as then none else callK3 S dst own () as ds (call f vs) := rfl
theorem callK3_some (S : St) (dst : Option Nat) (own : List (Nat × Nat)) (as : List AV) (ds : List Nat) (r : AV) (lent : List (List AV)) : callK3 S dst own () as ds (some ⟨r, lent⟩) = bif anyRs as && (hasSl r || hasSlLL lent) then none else afterK S dst own () (putAll S.l ds lent) r := rfl
def recvPut (d : Nat) (o : Option (St × AV)) : Option St := match o with | some (S2, v) => some (S2.putD (some d) v) | none => none
theorem recvPut_some (d : Nat) (s : List (Nat × AV)) (l : List (Nat × List AV)) (v : AV) : recvPut d (some (⟨s, l⟩, v)) = some ⟨put s d v, l⟩ := rfl
theorem afterK_some (s : List (Nat × AV)) (l l' : List (Nat × List AV)) (d : Nat) (own : List (Nat × Nat)) (r : AV) : afterK ⟨s, l⟩ (some d) own () (some l') r = recvPut d (recv ⟨s, l'⟩ d own r) := by
  show (match recv ⟨s, l'⟩ d own r with | some (S2, v) => some (S2.putD (some d) v) | none => none) = _
  cases recv ⟨s, l'⟩ d own r <;> rfl
theorem afterK_none (s : List (Nat × AV)) (l l' : List (Nat × List AV)) (own : List (Nat × Nat)) (r : AV) : afterK ⟨s, l⟩ none own () (some l') r = some ⟨s, l'⟩ := rfl
theorem putAll_nil (l : List (Nat × List AV)) : putAll l [] [] = some l := rfl
theorem putAll_cons (l : List (Nat × List AV)) (d : Nat) (ds : List Nat) (cs : List AV) (css : List (List AV)) : putAll l (d :: ds) (cs :: css) = putAll (put l d cs) ds css := rfl
theorem hasSlLL_nil : hasSlLL [] = false := rfl
theorem hasSlLL_cons (x : List AV) (r : List (List AV)) : hasSlLL (x :: r) = (hasSlL x || hasSlLL r) := rfl
theorem recv_os (S : St) (d : Nat) (p : Nat × Nat) (o : List (Nat × Nat)) (cs : List AV) (n sz : Nat) : recv S d (p :: o) (.os cs n sz) = some ({ s := mapS (kill1 d) S.s, l := put (del S.l d) d cs }, .rs d 0 n sz) := rfl
theorem recv_op (S : St) (d : Nat) (p : Nat × Nat) (o : List (Nat × Nat)) (cs : List AV) : recv S d (p :: o) (.op cs) = some ({ s := mapS (kill1 d) S.s, l := put (del S.l d) d cs }, .rf d 0) := rfl
def recvV (S : St) (_ : Tg S) (o : Option AV) : Option (St × AV) := match o with | some v => some (S, v) | none => none
theorem recv_no (S : St) (d : Nat) (v : AV) : recv S d [] v = recvV S () (fromRet v) := by cases v <;> rfl
theorem recvV_some (S : St) (v : AV) : recvV S () (some v) = some (S, v) := rfl
/-- A tuple, one part of it as a row: what the part is, told apart. -/
def recvT (S : St) (d j : Nat) (own : List (Nat × Nat)) (l : List AV) (_ : Tg2 S own) (x : Option AV) : Option (St × AV) :=
  match x with
  | some (.os cs n sz) =>
    (match fromRetL (l.set j (.rs (d + 1000 * (j + 1)) 0 n sz)) with
     | some vs => some ({ s := mapS (kill1 (d + 1000 * (j + 1))) S.s, l := put (del S.l (d + 1000 * (j + 1))) (d + 1000 * (j + 1)) cs }, .tp vs)
     | none => none)
  | some (.op cs) =>
    (match fromRetL (l.set j (.rf (d + 1000 * (j + 1)) 0)) with
     | some vs => some ({ s := mapS (kill1 (d + 1000 * (j + 1))) S.s, l := put (del S.l (d + 1000 * (j + 1))) (d + 1000 * (j + 1)) cs }, .tp vs)
     | none => none)
  | _ => recv S d own (.tp l)
theorem recv_tp (S : St) (d j t : Nat) (o : List (Nat × Nat)) (l : List AV) : recv S d ((j, t) :: o) (.tp l) = recvT S d j ((j, t) :: o) l () l[j]? := by
  unfold recvT
  split
  · rename_i h; simp only [recv, h]; cases fromRetL _ <;> rfl
  · rename_i h; simp only [recv, h]; cases fromRetL _ <;> rfl
  · rfl
theorem recvT_os (S : St) (d j : Nat) (own : List (Nat × Nat)) (l : List AV) (cs : List AV) (n sz : Nat) : recvT S d j own l () (some (.os cs n sz)) = (match fromRetL (l.set j (.rs (d + 1000 * (j + 1)) 0 n sz)) with
     | some vs => some ({ s := mapS (kill1 (d + 1000 * (j + 1))) S.s, l := put (del S.l (d + 1000 * (j + 1))) (d + 1000 * (j + 1)) cs }, .tp vs)
     | none => none) := rfl
theorem recvT_op (S : St) (d j : Nat) (own : List (Nat × Nat)) (l : List AV) (cs : List AV) : recvT S d j own l () (some (.op cs)) = (match fromRetL (l.set j (.rf (d + 1000 * (j + 1)) 0)) with
     | some vs => some ({ s := mapS (kill1 (d + 1000 * (j + 1))) S.s, l := put (del S.l (d + 1000 * (j + 1))) (d + 1000 * (j + 1)) cs }, .tp vs)
     | none => none) := rfl

def srcR (sz d e off m sz' : Nat) (row : Option (List AV)) : Option (List AV × Nat) :=
  match row with
  | some cs => bif !Nat.beq e d && (Nat.beq sz sz' && Nat.ble (off + m * sz) cs.length) then some ((cs.drop off).take (m * sz), m) else none
  | none => none
theorem srcV_rs (l : List (Nat × List AV)) (sz d e off m sz' : Nat) : srcV l sz d (.rs e off m sz') = srcR sz d e off m sz' (look l e) := by
  simp only [srcV, srcR]; cases look l e <;> rfl
theorem srcR_some {sz d e off m : Nat} {cs : List AV} (hne : e ≠ d) (h : off + m * sz ≤ cs.length) : srcR sz d e off m sz (some cs) = some ((cs.drop off).take (m * sz), m) := by
  have h1 : Nat.beq e d = false := by rw [← Bool.not_eq_true, Nat.beq_eq]; exact hne
  have h2 : Nat.ble (off + m * sz) cs.length = true := by rw [Nat.ble_eq]; exact h
  simp [srcR, h1, h2, Nat.beq_refl]

end Zab
