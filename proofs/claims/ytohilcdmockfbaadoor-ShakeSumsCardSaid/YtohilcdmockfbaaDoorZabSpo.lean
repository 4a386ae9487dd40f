/- Sponges over lists of 64-bit words: taking, padding, giving. No statement of the program stands here. -/
import Derived.Test.YtohilcdmockfbaaDoorZabKec
namespace Zab
open Go
set_option linter.unusedVariables false

/-- The permutation. -/
def perm (L : List Ln) : List Ln := rnds L 24
theorem perm_len {L : List Ln} (h : L.length = 25) : (perm L).length = 25 := rnds_len h 24
theorem perm_def (L : List Ln) : rnds L 24 = perm L := rfl
attribute [irreducible] perm
/-- A byte goes into the state. -/
def mixA (A : List Ln) (p : Nat) (x : Int) : List Ln := A.set (p / 8) (nl A (p / 8) ^^^ (BitVec.ofInt 64 x <<< (8 * (p % 8))))
theorem mixA_len (A : List Ln) (p : Nat) (x : Int) : (mixA A p x).length = A.length := by simp [mixA]
def take1 (R : Nat) (S : List Ln × Nat) (x : Int) : List Ln × Nat := if S.2 + 1 = R then (perm (mixA S.1 S.2 x), 0) else (mixA S.1 S.2 x, S.2 + 1)
/-- Bytes are taken. -/
def takeL (R : Nat) (S : List Ln × Nat) (L : List Int) : List Ln × Nat := L.foldl (take1 R) S
theorem takeL_app (R : Nat) (S : List Ln × Nat) (L M : List Int) : takeL R S (L ++ M) = takeL R (takeL R S L) M := List.foldl_append
theorem takeL_nil (R : Nat) (S : List Ln × Nat) : takeL R S [] = S := rfl
theorem takeL_one (R : Nat) (S : List Ln × Nat) (x : Int) : takeL R S [x] = take1 R S x := rfl
/-- The end of what is taken. -/
def padS (R : Nat) (X : Int) (S : List Ln × Nat) : List Ln × Nat := (perm (mixA (mixA S.1 S.2 X) (R - 1) 128), 0)
def outS (R : Nat) (S : List Ln × Nat) : List Ln × Nat := if S.2 = R then (perm S.1, 0) else S
def outB (S : List Ln × Nat) : Int := IntKind.u8.wrap (iv (nl S.1 (S.2 / 8) >>> (8 * (S.2 % 8))))
/-- The state behind n bytes. -/
def nextN (R : Nat) (S : List Ln × Nat) : Nat → List Ln × Nat
  | 0 => S
  | n + 1 => ((outS R (nextN R S n)).1, (outS R (nextN R S n)).2 + 1)
/-- n bytes. -/
def outL (R : Nat) (S : List Ln × Nat) (n : Nat) : List Int := (List.range n).map fun i => outB (outS R (nextN R S i))
theorem outL_len (R : Nat) (S : List Ln × Nat) (n : Nat) : (outL R S n).length = n := by simp [outL]
theorem outL_succ (R : Nat) (S : List Ln × Nat) (n : Nat) : outL R S (n + 1) = outL R S n ++ [outB (outS R (nextN R S n))] := by simp [outL, List.range_succ]
theorem nextN_add (R : Nat) (S : List Ln × Nat) (n : Nat) : ∀ m, nextN R S (n + m) = nextN R (nextN R S n) m
  | 0 => rfl
  | m + 1 => by rw [← Nat.add_assoc, nextN, nextN, nextN_add R S n m]
theorem outL_add (R : Nat) (S : List Ln × Nat) (n : Nat) : ∀ m, outL R S (n + m) = outL R S n ++ outL R (nextN R S n) m
  | 0 => by simp [outL]
  | m + 1 => by rw [← Nat.add_assoc, outL_succ, outL_add R S n m, outL_succ, nextN_add, List.append_assoc]

/-- A state that may be. -/
structure SpOk (R : Nat) (S : List Ln × Nat) : Prop where
  len : S.1.length = 25
  low : S.2 ≤ R
theorem take1_ok {R : Nat} {S : List Ln × Nat} (h : S.1.length = 25) (hp : S.2 < R) (x : Int) : (take1 R S x).1.length = 25 ∧ (take1 R S x).2 < R := by
  unfold take1
  split
  · exact ⟨perm_len (by rw [mixA_len]; exact h), by show 0 < R; omega⟩
  · exact ⟨by rw [mixA_len]; exact h, by show S.2 + 1 < R; omega⟩
theorem takeL_ok {R : Nat} : ∀ (L : List Int) {S : List Ln × Nat}, S.1.length = 25 → S.2 < R → (takeL R S L).1.length = 25 ∧ (takeL R S L).2 < R
  | [], _, h, hp => ⟨h, hp⟩
  | x :: L, S, h, hp => takeL_ok L (S := take1 R S x) (take1_ok h hp x).1 (take1_ok h hp x).2
theorem padS_ok {R : Nat} {S : List Ln × Nat} (h : S.1.length = 25) (X : Int) : (padS R X S).1.length = 25 := perm_len (by rw [mixA_len, mixA_len]; exact h)
theorem outS_ok {R : Nat} {S : List Ln × Nat} (hR : 0 < R) (h : S.1.length = 25) (hp : S.2 ≤ R) : (outS R S).1.length = 25 ∧ (outS R S).2 < R := by
  unfold outS
  split
  · exact ⟨perm_len h, by show 0 < R; omega⟩
  · exact ⟨h, by omega⟩
theorem nextN_ok {R : Nat} {S : List Ln × Nat} (hR : 0 < R) (h : S.1.length = 25) (hp : S.2 ≤ R) : ∀ n, (nextN R S n).1.length = 25 ∧ (nextN R S n).2 ≤ R
  | 0 => ⟨h, hp⟩
  | n + 1 => by
    obtain ⟨a, b⟩ := nextN_ok hR h hp n
    obtain ⟨c, d⟩ := outS_ok hR a b
    exact ⟨c, by show _ + 1 ≤ R; omega⟩
theorem outB_in (S : List Ln × Nat) : 0 ≤ outB S ∧ outB S < 256 := by
  have : outB S = iv (nl S.1 (S.2 / 8) >>> (8 * (S.2 % 8))) % 256 := rfl
  rw [this]; omega

/-! ### A sponge's cells -/

def spC (A : List Ln) (r x p : Int) (s : Bool) : List AV := lanes A ++ [.i .i64 r, .i .u8 x, .i .i64 p, .b s]
section
variable {A B : List Ln} {r x p : Int} {s : Bool}
theorem lanes_25 (h : A.length = 25) : (lanes A).length = 25 := by rw [lanes_length, h]
theorem spC_len (h : A.length = 25) : (spC A r x p s).length = 29 := by simp [spC, lanes_25 h]
theorem spC_25 (h : A.length = 25) : (spC A r x p s)[25]? = some (.i .i64 r) := by unfold spC; rw [List.getElem?_append_right (by rw [lanes_25 h]; omega), lanes_25 h]; rfl
theorem spC_26 (h : A.length = 25) : (spC A r x p s)[26]? = some (.i .u8 x) := by unfold spC; rw [List.getElem?_append_right (by rw [lanes_25 h]; omega), lanes_25 h]; rfl
theorem spC_27 (h : A.length = 25) : (spC A r x p s)[27]? = some (.i .i64 p) := by unfold spC; rw [List.getElem?_append_right (by rw [lanes_25 h]; omega), lanes_25 h]; rfl
theorem spC_28 (h : A.length = 25) : (spC A r x p s)[28]? = some (.b s) := by unfold spC; rw [List.getElem?_append_right (by rw [lanes_25 h]; omega), lanes_25 h]; rfl
theorem spC_lane (h : A.length = 25) {j : Nat} (hj : j < 25) : (spC A r x p s)[j]? = some (.i .u64 (iv (nl A j))) := by
  unfold spC; rw [List.getElem?_append_left (by rw [lanes_25 h]; exact hj)]; exact lanes_get (by omega)
theorem spC_set27 (h : A.length = 25) (q : Int) : (spC A r x p s).set 27 (.i .i64 q) = spC A r x q s := by
  unfold spC; rw [List.set_append_right _ _ (by rw [lanes_25 h]; omega), lanes_25 h]; rfl
theorem spC_set28 (h : A.length = 25) (t : Bool) : (spC A r x p s).set 28 (.b t) = spC A r x p t := by
  unfold spC; rw [List.set_append_right _ _ (by rw [lanes_25 h]; omega), lanes_25 h]; rfl
theorem spC_setl (h : A.length = 25) {j : Nat} (hj : j < 25) (v : Ln) : (spC A r x p s).set j (.i .u64 (iv v)) = spC (A.set j v) r x p s := by
  unfold spC; rw [List.set_append_left _ _ (by rw [lanes_25 h]; exact hj), lanes_set]
theorem spC_part (h : A.length = 25) : partV (spC A r x p s) 0 (some 25) = some (.ag (lanes A)) := by
  rw [partV_some (by rw [spC_len h]; omega) (.inr (by rw [spC_len h]; omega))]
  congr 2
  show ((lanes A ++ _).drop 0).take 25 = _
  rw [List.drop_zero, List.take_append_of_le_length (by rw [lanes_25 h]; omega), List.take_of_length_le (by rw [lanes_25 h]; omega)]
theorem spC_over (h : A.length = 25) (hB : B.length = 25) : setR (some (spC A r x p s)) 0 25 (some (lanes B)) = some (spC B r x p s) := by
  have h1 : over (spC A r x p s) 0 (lanes B) = spC B r x p s := by
    unfold over spC
    rw [lanes_25 hB, Nat.zero_add, List.drop_append, lanes_25 h, List.drop_of_length_le (by rw [lanes_25 h]; omega)]
    simp
  have h2 : Nat.ble (0 + 25) (spC A r x p s).length = true := by rw [spC_len h]; rfl
  unfold setR
  simp only [h2, cond_true]
  match hb : lanes B, lanes_25 hB with
  | a :: b :: l, _ => simp only; rw [← hb, h1]
theorem spC_hasSl (A : List Ln) : hasSlL (spC A r x p s) = false := by
  unfold spC lanes
  induction A with
  | nil => rfl
  | cons a A ih => simp only [List.map_cons, List.cons_append, hasSlL, hasSl1, Bool.false_or]; exact ih
theorem spC_new (r x : Int) : [.i .u64 0, .i .u64 0, .i .u64 0, .i .u64 0, .i .u64 0, .i .u64 0, .i .u64 0, .i .u64 0, .i .u64 0, .i .u64 0, .i .u64 0, .i .u64 0, .i .u64 0, .i .u64 0, .i .u64 0, .i .u64 0, .i .u64 0, .i .u64 0, .i .u64 0, .i .u64 0, .i .u64 0, .i .u64 0, .i .u64 0, .i .u64 0, .i .u64 0, .i .i64 r, .i .u8 x, .i .i64 0, .b false] = spC (zL 25) r x 0 false := rfl
end
/-- A byte among the state's. -/
theorem shl_byte (x : Int) (h0 : 0 ≤ x) (h1 : x < 256) {n : Nat} (hn : n < 64) : IntKind.u64.wrap x = x ∧ shiftV .shl .u64 x (n : Int) = some (.i .u64 (iv (BitVec.ofInt 64 x <<< n))) := by
  have e : iv (BitVec.ofInt 64 x) = x := by unfold iv; rw [BitVec.toNat_ofInt]; omega
  refine ⟨by rw [← e]; exact wrap_u64 _, ?_⟩
  have := shl_u64 (BitVec.ofInt 64 x) (n := n) (by omega)
  rwa [e] at this

theorem sees_nil (ds : List Nat) : seesAny ds [] = false := rfl
theorem sees_rf (ds : List Nat) (d o : Nat) (r : List AV) : seesAny ds (.rf d o :: r) = seesAny ds r := rfl
theorem sees_i (ds : List Nat) (k : IntKind) (n : Int) (r : List AV) : seesAny ds (.i k n :: r) = seesAny ds r := rfl
theorem sees_sl (ds : List Nat) (cs : List AV) (n : Nat) (r : List AV) : seesAny ds (.sl cs n :: r) = seesAny ds r := rfl
theorem sees_z (ds : List Nat) (r : List AV) : seesAny ds (.z :: r) = seesAny ds r := rfl
theorem sees_rs (ds : List Nat) (d o n sz : Nat) (r : List AV) : seesAny ds (.rs d o n sz :: r) = (memb ds d || seesAny ds r) := rfl
theorem sees_fl {ds : List Nat} {x : AV} {r : List AV} (h : x.flat = true) : seesAny ds (x :: r) = seesAny ds r := by cases x <;> first | rfl | cases h
/-- A part of an own slice. -/
theorem slcV_rs {sz d off n l h : Nat} {x y : Int} (hx : x = (l : Int)) (hy : y = (h : Int)) (h1 : l ≤ h) (h2 : h ≤ n) (h3 : l < n) : slcV sz (.rs d off n sz) (some (.i .i64 x)) (some (.i .i64 y)) none = some (.rs d (off + l * sz) (h - l) sz) := by
  subst hx hy
  have e1 : idx (.i .i64 (l : Int)) = some l := by simp [idx]
  have e2 : idx (.i .i64 (h : Int)) = some h := by simp [idx]
  have b1 : Nat.ble l h = true := by simpa using h1
  have b2 : Nat.ble h n = true := by simpa using h2
  have b3 : Nat.blt l n = true := by simpa using h3
  simp only [slcV, e1, e2, b1, b2, b3, Nat.beq_refl, Bool.and_self, cond_true]
theorem slcV_rs0 {sz d off n h : Nat} {y : Int} (hy : y = (h : Int)) (h2 : h ≤ n) (h3 : 0 < n) : slcV sz (.rs d off n sz) none (some (.i .i64 y)) none = some (.rs d off h sz) := by
  subst hy
  have e2 : idx (.i .i64 (h : Int)) = some h := by simp [idx]
  have b1 : Nat.ble 0 h = true := by simp
  have b2 : Nat.ble h n = true := by simpa using h2
  have b3 : Nat.blt 0 n = true := by simpa using h3
  simp only [slcV, e2, b1, b2, b3, Nat.beq_refl, Bool.and_self, cond_true, Nat.zero_mul, Nat.add_zero, Nat.sub_zero]
end Zab
