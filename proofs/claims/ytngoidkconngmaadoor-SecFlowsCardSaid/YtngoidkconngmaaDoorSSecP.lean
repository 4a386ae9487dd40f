/- Eight programs through which a secret goes on, each shown at last or not; which calls are known of them. -/
import Derived.Test.YtngoidkconngmaaDoorZabG8
import Derived.Test.YtngoidkconngmaaDoorSAbs
import Derived.KernelRfl
namespace Zab.YtngoidkconngmaaDoorS
open Go
set_option maxRecDepth 1000000
set_option linter.unusedVariables false

def rCopy : Ret := ⟨.tp [.ag [.s ⟨#[99, 111, 112, 121]⟩, .b true, .b true, .b false, .b false, .b false, .b false, .b false], .b true], []⟩
def rShow : Ret := ⟨.tp [.ag [.s ⟨#[115, 104, 111, 119]⟩, .b true, .b true, .b false, .b false, .b false, .b false, .b false], .b true], []⟩
def rIf : Ret := ⟨.tp [.ag [.s ⟨#[105, 102]⟩, .b false, .b true, .b false, .b false, .b false, .b true, .b true], .b true], []⟩
theorem of2 : evF tab 30 160 [.i .i64 2] = some rCopy := by kernel_rfl
theorem of12 : evF tab 30 160 [.i .i64 12] = some rShow := by kernel_rfl
theorem of14 : evF tab 30 160 [.i .i64 14] = some rIf := by kernel_rfl
/-- What a statement's kind is. -/
def memO : CallF := fun f xs => bif Nat.beq f 160 then (match xs with | [.i .i64 (.ofNat 2)] => some rCopy | [.i .i64 (.ofNat 12)] => some rShow | [.i .i64 (.ofNat 14)] => some rIf | _ => none) else none
theorem memO_le : CallLe memO (FF tab) := fun f xs r h => by
  unfold memO at h
  cases hf : Nat.beq f 160 <;> rw [hf] at h
  · cases h
  · have e := Nat.eq_of_beq_eq_true hf
    subst e
    simp only [cond_true] at h
    split at h <;> cases h
    · exact FF_of of2
    · exact FF_of of12
    · exact FF_of of14
def stm (op d a : Int) : List AV := [.i .i64 op, .i .i64 d, .i .i64 a, .i .i64 0, .i .i64 0, .i .i64 0, .z, .z]
def cops : Nat → List AV
  | 0 => []
  | k + 1 => cops k ++ stm 2 ((k : Int) + 1) k
def locs : Nat → List AV
  | 0 => []
  | k + 1 => .i .i64 3 :: .b true :: locs k
def prog (k : Nat) (b : Bool) : AV := .ag [.i .i64 17, .i .i64 4, .sl (.i .i64 1 :: .b true :: (locs k ++ [.i .i64 2, .b false])) (k + 2), .sl (cops k ++ (stm (bif b then 12 else 2) ((k : Int) + 1) k ++ stm 14 0 ((k : Int) + 1))) (k + 2)]
/-- Besides: this program is right. -/
def memV (p : AV) : CallF := fun f xs => bif Nat.beq f 79 then (match xs with | [q] => bif eqA q p then some ⟨.nl, []⟩ else none | _ => none) else memO f xs
theorem memV_le {p : AV} (hp : FF tab 79 [p] = some ⟨.nl, []⟩) : CallLe (memV p) (FF tab) := fun f xs r h => by
  unfold memV at h
  cases hf : Nat.beq f 79 <;> rw [hf] at h
  · exact memO_le _ _ _ h
  · have e := Nat.eq_of_beq_eq_true hf
    subst e
    simp only [cond_true] at h
    split at h
    · rename_i q
      cases hq : eqA q p <;> rw [hq] at h <;> cases h
      rw [eqA_eq hq]; exact hp
    · cases h
def flowX : AC := pin (l2 (r2 (r2 (r2 (r2 (r2 A5.body))))))
def flowY : AC := r2 (r2 (r2 (r2 (r2 (r2 A5.body)))))
/-- One program, run: right it is, and the law's rest is true. -/
def runV (k : Nat) (b : Bool) : Bool := match evM memO tab 60 79 [prog k b] with | some ⟨.nl, []⟩ => true | _ => false
def runF (k : Nat) (b : Bool) : Bool := endT 4 (evC (evM (memV (prog k b)) tab 60) 60 (.seq flowX flowY) ⟨[(5, .b true), (1, .b b), (0, .i .i64 k)], []⟩)
theorem run_W {k : Nat} {b : Bool} (h1 : runV k b = true) (h2 : runF k b = true) {n : Int} : W (FF tab) (.seq flowX flowY) ⟨[(5, .b true), (1, .b b), (0, .i .i64 k)], []⟩ (Ends 2 [.t 4] [.i .i64 n, .b b] ⟨.b true, []⟩) := by
  have hv : FF tab 79 [prog k b] = some ⟨.nl, []⟩ := by
    unfold runV at h1
    split at h1
    · rename_i he
      exact FF_memo memO_le he
    · cases h1
  exact W_trueM (memV_le hv) h2 (fun l => rfl)
end Zab.YtngoidkconngmaaDoorS
