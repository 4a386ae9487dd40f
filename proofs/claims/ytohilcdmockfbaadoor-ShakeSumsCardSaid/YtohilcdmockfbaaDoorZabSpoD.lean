/- The document's sponge: its cells. No statement of the program stands here. -/
import Derived.Test.YtohilcdmockfbaaDoorZabSpo
namespace Zab
open Go
set_option linter.unusedVariables false
/-! ### The document's sponge -/

def spD (A : List Ln) (r x p : Int) (s : Bool) : List AV := .i .i64 r :: .i .u8 x :: (lanes A ++ [AV.i .i64 p, AV.b s])
section
variable {A B : List Ln} {r x p : Int} {s : Bool}
theorem spD_len (h : A.length = 25) : (spD A r x p s).length = 29 := by simp [spD, lanes_25 h]
theorem spD_0 : (spD A r x p s)[0]? = some (.i .i64 r) := rfl
theorem spD_1 : (spD A r x p s)[1]? = some (.i .u8 x) := rfl
theorem spD_27 (h : A.length = 25) : (spD A r x p s)[27]? = some (.i .i64 p) := by
  show (lanes A ++ [AV.i .i64 p, AV.b s])[25]? = _
  rw [List.getElem?_append_right (by rw [lanes_25 h]; omega), lanes_25 h]; rfl
theorem spD_28 (h : A.length = 25) : (spD A r x p s)[28]? = some (.b s) := by
  show (lanes A ++ [AV.i .i64 p, AV.b s])[26]? = _
  rw [List.getElem?_append_right (by rw [lanes_25 h]; omega), lanes_25 h]; rfl
theorem spD_lane (h : A.length = 25) {j : Nat} (hj : j < 25) : (spD A r x p s)[2 + j]? = some (.i .u64 (iv (nl A j))) := by
  rw [show 2 + j = j + 2 by omega]
  show (lanes A ++ [AV.i .i64 p, AV.b s])[j]? = _
  rw [List.getElem?_append_left (by rw [lanes_25 h]; exact hj)]; exact lanes_get (by omega)
theorem spD_set27 (h : A.length = 25) (q : Int) : (spD A r x p s).set 27 (.i .i64 q) = spD A r x q s := by
  show AV.i .i64 r :: AV.i .u8 x :: ((lanes A ++ [AV.i .i64 p, AV.b s]).set 25 (.i .i64 q)) = _
  rw [List.set_append_right _ _ (by rw [lanes_25 h]; omega), lanes_25 h]; rfl
theorem spD_set28 (h : A.length = 25) (t : Bool) : (spD A r x p s).set 28 (.b t) = spD A r x p t := by
  show AV.i .i64 r :: AV.i .u8 x :: ((lanes A ++ [AV.i .i64 p, AV.b s]).set 26 (.b t)) = _
  rw [List.set_append_right _ _ (by rw [lanes_25 h]; omega), lanes_25 h]; rfl
theorem spD_setl (h : A.length = 25) {j : Nat} (hj : j < 25) (v : Ln) : (spD A r x p s).set (2 + j) (.i .u64 (iv v)) = spD (A.set j v) r x p s := by
  rw [show 2 + j = j + 2 by omega]
  show AV.i .i64 r :: AV.i .u8 x :: ((lanes A ++ [AV.i .i64 p, AV.b s]).set j (.i .u64 (iv v))) = _
  rw [List.set_append_left _ _ (by rw [lanes_25 h]; exact hj), lanes_set]; rfl
theorem spD_part (h : A.length = 25) : partV (spD A r x p s) 2 (some 25) = some (.ag (lanes A)) := by
  rw [partV_some (by rw [spD_len h]; omega) (.inl (by omega))]
  congr 2
  show ((lanes A ++ _)).take 25 = _
  rw [List.take_append_of_le_length (by rw [lanes_25 h]; omega), List.take_of_length_le (by rw [lanes_25 h]; omega)]
theorem spD_over (h : A.length = 25) (hB : B.length = 25) : setR (some (spD A r x p s)) 2 25 (some (lanes B)) = some (spD B r x p s) := by
  have h1 : over (spD A r x p s) 2 (lanes B) = spD B r x p s := by
    unfold over
    rw [lanes_25 hB]
    show AV.i .i64 r :: AV.i .u8 x :: (lanes B ++ ((lanes A ++ [AV.i .i64 p, AV.b s]).drop 25)) = _
    rw [List.drop_append, lanes_25 h, List.drop_of_length_le (by rw [lanes_25 h]; omega)]
    rfl
  have h2 : Nat.ble (2 + 25) (spD A r x p s).length = true := by rw [spD_len h]; rfl
  unfold setR
  simp only [h2, cond_true]
  match hb : lanes B, lanes_25 hB with
  | a :: b :: l, _ => simp only; rw [← hb, h1]
theorem spD_hasSl (A : List Ln) : hasSlL (spD A r x p s) = false := by
  unfold spD lanes
  simp only [hasSlL, hasSl1, Bool.false_or]
  induction A with
  | nil => rfl
  | cons a A ih => simp only [List.map_cons, List.cons_append, hasSlL, hasSl1, Bool.false_or]; exact ih
theorem spD_new (r x : Int) : [.i .i64 r, .i .u8 x, .i .u64 0, .i .u64 0, .i .u64 0, .i .u64 0, .i .u64 0, .i .u64 0, .i .u64 0, .i .u64 0, .i .u64 0, .i .u64 0, .i .u64 0, .i .u64 0, .i .u64 0, .i .u64 0, .i .u64 0, .i .u64 0, .i .u64 0, .i .u64 0, .i .u64 0, .i .u64 0, .i .u64 0, .i .u64 0, .i .u64 0, .i .u64 0, .i .u64 0, .i .i64 0, .b false] = spD (zL 25) r x 0 false := rfl
end
end Zab
