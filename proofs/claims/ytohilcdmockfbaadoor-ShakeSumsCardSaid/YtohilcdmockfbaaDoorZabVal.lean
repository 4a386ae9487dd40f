/- Steps by their values; lists of numbers as cells. No statement of the program stands here. -/
import Derived.Test.YtohilcdmockfbaaDoorZabSim
namespace Zab
open Go
set_option linter.unusedVariables false
set_option linter.unusedSimpArgs false

def ixAV (len sz : Nat) (x i : AV) : Option AV :=
  match i with
  | .i _ j => bif decide (0 ≤ j) && decide (j < (len : Int)) then
      (match x with | .rf d o => some (.rf d (o + j.toNat * sz)) | .el cs o => some (.el cs (o + j.toNat * sz)) | _ => none) else none
  | _ => none
def ixSV (sz : Nat) (x i : AV) : Option AV :=
  match i with
  | .i _ j =>
    (match x with
     | .sl cs n => bif Nat.blt (j.toNat * sz) cs.length && (decide (0 ≤ j) && decide (j < (n : Int))) then some (.el cs (j.toNat * sz)) else none
     | .rs d o n sz' => bif Nat.beq sz sz' && (decide (0 ≤ j) && decide (j < (n : Int))) then some (.rf d (o + j.toNat * sz)) else none
     | _ => none)
  | _ => none
def fldV (off : Nat) (m : Option Nat) (x : AV) : Option AV := match x with | .ag cs => partV cs off m | _ => none
def ixVV (len sz : Nat) (m : Option Nat) (x i : AV) : Option AV :=
  match i with
  | .i _ j => bif decide (0 ≤ j) && decide (j < (len : Int)) then (match x with | .ag cs => partV cs (j.toNat * sz) m | _ => none) else none
  | _ => none
def lenV (x : AV) : Option AV := match x with | .sl _ n | .rs _ _ n _ => some (.i .i64 n) | .z => some (.i .i64 0) | _ => none
def mkSV (zero : List AV) (bytes : Nat) (l c : AV) : Option AV :=
  match l, c with
  | .i .i64 n, .i .i64 m => bif decide (0 ≤ n) && (decide (n = m) && decide (n.toNat * bytes ≤ 140737488355328)) then some (.sl (zrep zero n.toNat) n.toNat) else none
  | _, _ => none
def loadR (row : Option (List AV)) (o : Nat) (m : Option Nat) : Option AV := match row with | some cs => partV cs o m | none => none
def loadV (l : List (Nat × List AV)) (m : Option Nat) (x : AV) : Option AV :=
  match x with
  | .rf d o => loadR (look l d) o m
  | .el cs o => partV cs o m
  | _ => none
def setR (row : Option (List AV)) (o sz : Nat) (vs : Option (List AV)) : Option (List AV) :=
  match row, vs with
  | some cs, some vs => bif Nat.ble (o + sz) cs.length then (match vs with | [v] => some (cs.set o v) | vs => some (over cs o vs)) else none
  | _, _ => none
def storeV (l : List (Nat × List AV)) (sz : Nat) (x v : AV) : Option (List (Nat × List AV)) :=
  match x with
  | .rf d o => (setR (look l d) o sz (cellsOf sz v)).map (put l d)
  | _ => none
def mkRS (S : St) (dst : Option Nat) (_ : Tg S) (zero : List AV) (bytes : Nat) (l c : AV) : Option St :=
  match dst, l, c with
  | some d, .i .i64 n, .i .i64 m => bif decide (0 ≤ n) && (decide (n ≤ m) && decide (m.toNat * bytes ≤ 140737488355328)) then some (S.root d (zrep zero n.toNat) (.rs d 0 n.toNat zero.length)) else none
  | _, _, _ => none

section
variable (call : CallF) (S : St) (dst : Option Nat)
theorem sv_ixA (len sz : Nat) (x i : Operand) : step call ⟨dst, .ixA len sz x i, none⟩ S = optPut S dst () (ixAV len sz (evalO S.s x) (evalO S.s i)) := by
  rw [st_ixA]; simp only [pureV, ixAV]; cases evalO S.s i <;> rfl
theorem sv_ixS (sz : Nat) (x i : Operand) : step call ⟨dst, .ixS sz x i, none⟩ S = optPut S dst () (ixSV sz (evalO S.s x) (evalO S.s i)) := by
  rw [st_ixS]; simp only [pureV, ixSV]; cases evalO S.s i <;> rfl
theorem sv_fld (off : Nat) (m : Option Nat) (x : Operand) : step call ⟨dst, .fld off m x, none⟩ S = optPut S dst () (fldV off m (evalO S.s x)) := by
  rw [st_fld]; simp only [pureV, fldV]; cases evalO S.s x <;> rfl
theorem sv_ixV (len sz : Nat) (m : Option Nat) (x i : Operand) : step call ⟨dst, .ixV len sz m x i, none⟩ S = optPut S dst () (ixVV len sz m (evalO S.s x) (evalO S.s i)) := by
  rw [st_ixV]; simp only [pureV, ixVV]; cases evalO S.s i <;> rfl
theorem sv_len (x : Operand) : step call ⟨dst, .len false x, none⟩ S = optPut S dst () (lenV (evalO S.s x)) := by
  rw [st_len]; simp only [pureV, lenV]; cases evalO S.s x <;> rfl
def lenSV (x : AV) : Option AV := match x with | .s t => some (.i .i64 t.size) | _ => none
theorem sv_lenS (x : Operand) : step call ⟨dst, .len true x, none⟩ S = optPut S dst () (lenSV (evalO S.s x)) := by
  rw [st_len]; simp only [pureV, lenSV]; cases evalO S.s x <;> rfl
theorem sv_mkS (zero : List AV) (bytes : Nat) (l c : Operand) : step call ⟨dst, .mkS zero bytes l c, none⟩ S = optPut S dst () (mkSV zero bytes (evalO S.s l) (evalO S.s c)) := by
  rw [st_mkS]; rfl
theorem sv_load (m : Option Nat) (t : Nat) : step call ⟨dst, .load m (.tmp t), none⟩ S = optPut S dst () (loadV S.l m (get S.s t)) := by
  rw [st_load]; simp only [readV, loadV, evalO]; cases get S.s t <;> first | rfl | (simp only [loadR]; cases look S.l _ <;> rfl)
theorem sv_ldg (g : Nat) : step call ⟨dst, .ldg g, none⟩ S = optPut S dst () (some (.er g)) := rfl
theorem sv_loadg (g : Nat) : step call ⟨dst, .load none (.global g), none⟩ S = optPut S dst () (some (.er g)) := rfl
theorem sv_store (sz : Nat) (x v : Operand) : step call ⟨dst, .store sz x v, none⟩ S = optMem S.s () (storeV S.l sz (evalO S.s x) (evalO S.s v)) := by
  rw [st_store]; simp only [writeV, storeV]
  congr 1
  cases hx : evalO S.s x <;> first | rfl | skip
  rename_i d o
  rcases hl : look S.l d with _ | cs <;> rcases hc : cellsOf sz (evalO S.s v) with _ | vs <;> simp only [hl, setR, Option.map_none] <;> try rfl
  cases Nat.ble (o + sz) cs.length
  · rfl
  · simp only [cond_true]
    match vs with
    | [] => rfl
    | [v] => rfl
    | _ :: _ :: _ => rfl
theorem sv_mkR (zero : List AV) (bytes : Nat) (l c : Operand) : step call ⟨dst, .mkR zero bytes l c, none⟩ S = mkRS S dst () zero bytes (evalO S.s l) (evalO S.s c) := by
  rw [st_mkR]; simp only [stepK, mkRS]; cases dst <;> rfl
def boxS (d : Nat) (_ : Tg S) (cs : Option (List AV)) : Option St := match cs with | some cs => some (S.root d cs (.rf d 0)) | none => none
theorem sv_box (d sz : Nat) (v : Operand) : step call ⟨some d, .box sz v, none⟩ S = boxS S d () (cellsOf sz (evalO S.s v)) := by
  rw [st_box]; simp only [stepK, boxS]; cases cellsOf sz (evalO S.s v) <;> rfl
theorem sv_alloc (d : Nat) (zero : List AV) : step call ⟨some d, .alloc zero, none⟩ S = some (S.root d zero (.rf d 0)) := rfl
def buildV (o : Option (List AV)) : Option AV := match o with | some cs => some (.ag cs) | none => none
theorem sv_build (zero : List AV) (parts : List (Nat × Nat × Operand)) : step call ⟨dst, .build zero parts, none⟩ S = optPut S dst () (buildV (fillV (evalO S.s) parts zero)) := by
  rw [st_build]; simp only [pureV, buildV]; cases fillV (evalO S.s) parts zero <;> rfl
def bslV (n : Nat) (o : Option (List AV)) : Option AV := match o with | some cs => some (.sl cs n) | none => none
theorem sv_bsl (n : Nat) (zero : List AV) (parts : List (Nat × Nat × Operand)) : step call ⟨dst, .bsl n zero parts, none⟩ S = optPut S dst () (bslV n (fillV (evalO S.s) parts (zrep zero n))) := by
  rw [st_bsl]; simp only [pureV, bslV]; cases fillV (evalO S.s) parts (zrep zero n) <;> rfl
end

theorem buildV_some (cs : List AV) : buildV (some cs) = some (.ag cs) := rfl
theorem bslV_some (n : Nat) (cs : List AV) : bslV n (some cs) = some (.sl cs n) := rfl
theorem boxS_some (S : St) (d : Nat) (cs : List AV) : boxS S d () (some cs) = some (S.root d cs (.rf d 0)) := rfl
theorem root_mk (s : List (Nat × AV)) (l : List (Nat × List AV)) (d : Nat) (cs : List AV) (v : AV) : St.root ⟨s, l⟩ d cs v = ⟨put (mapS (kill1 d) s) d v, put (del l d) d cs⟩ := rfl

/-! ### What they come to -/

theorem dec_t {c : Prop} [Decidable c] (h : c) : decide c = true := decide_eq_true h
theorem dec_f {c : Prop} [Decidable c] (h : ¬ c) : decide c = false := decide_eq_false h


theorem ixSV_sl {sz n : Nat} {cs : List AV} {k : IntKind} {j : Int} (h0 : 0 ≤ j) (h1 : j < n) (h2 : j.toNat * sz < cs.length) : ixSV sz (.sl cs n) (.i k j) = some (.el cs (j.toNat * sz)) := by
  have : Nat.blt (j.toNat * sz) cs.length = true := by simpa [Nat.blt_eq] using h2
  simp [ixSV, this, h0, h1]
theorem ixSV_rs {d o sz n : Nat} {k : IntKind} {j : Int} (h0 : 0 ≤ j) (h1 : j < n) : ixSV sz (.rs d o n sz) (.i k j) = some (.rf d (o + j.toNat * sz)) := by
  simp [ixSV, h0, h1, Nat.beq_refl]
theorem ixAV_rf {d o len sz : Nat} {k : IntKind} {j : Int} (h0 : 0 ≤ j) (h1 : j < len) : ixAV len sz (.rf d o) (.i k j) = some (.rf d (o + j.toNat * sz)) := by
  simp [ixAV, h0, h1]
theorem ixAV_el {cs : List AV} {o len sz : Nat} {k : IntKind} {j : Int} (h0 : 0 ≤ j) (h1 : j < len) : ixAV len sz (.el cs o) (.i k j) = some (.el cs (o + j.toNat * sz)) := by
  simp [ixAV, h0, h1]
theorem ixVV_ag {cs : List AV} {m : Option Nat} {len sz : Nat} {k : IntKind} {j : Int} (h0 : 0 ≤ j) (h1 : j < len) : ixVV len sz m (.ag cs) (.i k j) = partV cs (j.toNat * sz) m := by
  simp [ixVV, h0, h1]
theorem fldV_ag (off : Nat) (m : Option Nat) (cs : List AV) : fldV off m (.ag cs) = partV cs off m := rfl
theorem lenV_sl (cs : List AV) (n : Nat) : lenV (.sl cs n) = some (.i .i64 n) := rfl
theorem lenV_rs (d o n sz : Nat) : lenV (.rs d o n sz) = some (.i .i64 n) := rfl
theorem lenSV_s (t : ByteArray) : lenSV (.s t) = some (.i .i64 t.size) := rfl
theorem lenV_z : lenV .z = some (.i .i64 0) := rfl
theorem loadV_rf (l : List (Nat × List AV)) (m : Option Nat) (d o : Nat) : loadV l m (.rf d o) = loadR (look l d) o m := rfl
theorem loadV_el (l : List (Nat × List AV)) (m : Option Nat) (cs : List AV) (o : Nat) : loadV l m (.el cs o) = partV cs o m := rfl
theorem loadR_some (cs : List AV) (o : Nat) (m : Option Nat) : loadR (some cs) o m = partV cs o m := rfl
theorem partV_none (cs : List AV) (o : Nat) : partV cs o none = cs[o]? := rfl
theorem partV_all {cs : List AV} {m : Nat} (h : cs.length = m) : partV cs 0 (some m) = some (.ag cs) := by
  subst h; simp [partV, show Nat.ble cs.length cs.length = true by simp]
theorem partV_some {cs : List AV} {o m : Nat} (h : o + m ≤ cs.length) (h0 : 0 < o ∨ m < cs.length) : partV cs o (some m) = some (.ag ((cs.drop o).take m)) := by
  have : Nat.ble (o + m) cs.length = true := by simpa using h
  simp [partV, this]
theorem storeV_rf (l : List (Nat × List AV)) (sz d o : Nat) (v : AV) : storeV l sz (.rf d o) v = (setR (look l d) o sz (cellsOf sz v)).map (put l d) := rfl
theorem setR_one {cs : List AV} {o : Nat} {v : AV} (h : o < cs.length) : setR (some cs) o 1 (some [v]) = some (cs.set o v) := by
  have : Nat.ble (o + 1) cs.length = true := by rw [Nat.ble_eq]; omega
  simp [setR, this]
theorem setR_all {cs vs : List AV} {m : Nat} (h : cs.length = m) (h2 : vs.length = m) : setR (some cs) 0 m (some vs) = some vs := by
  subst h
  simp only [setR, Nat.zero_add, Nat.ble_eq, Nat.le_refl, cond_true, show Nat.ble cs.length cs.length = true by simp]
  match vs, h2 with
  | [], h2 => have : cs = [] := by cases cs <;> simp_all
              subst this; rfl
  | [v], h2 => match cs, h2 with
               | [c], _ => rfl
  | a :: b :: r, h2 => simp only [over, List.take_zero, List.nil_append, Nat.zero_add, h2]; simp
theorem cellsOf_ag {cs : List AV} {m : Nat} (h : cs.length = m) : cellsOf m (.ag cs) = some cs := by subst h; simp [cellsOf]
theorem cellsOf_i (k : IntKind) (n : Int) : cellsOf 1 (.i k n) = some [.i k n] := rfl
theorem cellsOf_b (t : Bool) : cellsOf 1 (.b t) = some [.b t] := rfl
theorem cellsOf_sl (cs : List AV) (n : Nat) : cellsOf 1 (.sl cs n) = some [.sl cs n] := rfl
theorem cellsOf_z : cellsOf 1 .z = some [.z] := rfl
theorem cellsOf_er (g : Nat) : cellsOf 1 (.er g) = some [.er g] := rfl
theorem cellsOf_nl : cellsOf 1 .nl = some [.nl] := rfl
theorem cellsOf_np : cellsOf 1 .np = some [.np] := rfl
theorem cellsOf_s (t : ByteArray) : cellsOf 1 (.s t) = some [.s t] := rfl
theorem mkSV_of {zero : List AV} {bytes : Nat} {n : Int} (h0 : 0 ≤ n) (h1 : n * bytes ≤ 140737488355328) : mkSV zero bytes (.i .i64 n) (.i .i64 n) = some (.sl (zrep zero n.toNat) n.toNat) := by
  have : n.toNat * bytes ≤ 140737488355328 := by
    have e : (n.toNat : Int) = n := Int.toNat_of_nonneg h0
    have : ((n.toNat * bytes : Nat) : Int) ≤ 140737488355328 := by rw [Int.natCast_mul, e]; exact h1
    omega
  simp [mkSV, h0, this]
theorem mkRS_of {S : St} {d : Nat} {zero : List AV} {bytes : Nat} {n m : Int} (h0 : 0 ≤ n) (h2 : n ≤ m) (h1 : m * bytes ≤ 140737488355328) : mkRS S (some d) () zero bytes (.i .i64 n) (.i .i64 m) = some (S.root d (zrep zero n.toNat) (.rs d 0 n.toNat zero.length)) := by
  have : m.toNat * bytes ≤ 140737488355328 := by
    have e : (m.toNat : Int) = m := Int.toNat_of_nonneg (by omega)
    have : ((m.toNat * bytes : Nat) : Int) ≤ 140737488355328 := by rw [Int.natCast_mul, e]; exact h1
    omega
  simp [mkRS, h0, h2, this]

/-! ### Numbers as cells -/

/-- The number at a place; behind the end, 0. -/
def ni (L : List Int) (j : Nat) : Int := L.getD j 0
def nb (L : List Bool) (j : Nat) : Bool := L.getD j false
def nv (L : List (List Int)) (j : Nat) : List Int := L.getD j []
theorem ni_get {L : List Int} {j : Nat} (h : j < L.length) : ni L j = L[j] := by simp [ni, h]
theorem nb_get {L : List Bool} {j : Nat} (h : j < L.length) : nb L j = L[j] := by simp [nb, h]
theorem nv_get {L : List (List Int)} {j : Nat} (h : j < L.length) : nv L j = L[j] := by simp [nv, h]

def nums (k : IntKind) (L : List Int) : List AV := L.map (.i k)
theorem nums_length (k : IntKind) (L : List Int) : (nums k L).length = L.length := by simp [nums]
theorem nums_nil (k : IntKind) : nums k [] = [] := rfl
theorem nums_cons (k : IntKind) (x : Int) (L : List Int) : nums k (x :: L) = .i k x :: nums k L := rfl
theorem nums_get {k : IntKind} {L : List Int} {j : Nat} (h : j < L.length) : (nums k L)[j]? = some (.i k (ni L j)) := by
  simp [nums, ni, h]
theorem nums_set (k : IntKind) (L : List Int) (j : Nat) (v : Int) : (nums k L).set j (.i k v) = nums k (L.set j v) := by
  simp [nums, List.map_set]
theorem nums_append (k : IntKind) (L M : List Int) : nums k L ++ nums k M = nums k (L ++ M) := by simp [nums]
theorem nums_snoc (k : IntKind) (L : List Int) (v : Int) : nums k L ++ [.i k v] = nums k (L ++ [v]) := by simp [nums]
theorem nums_drop (k : IntKind) (L : List Int) (n : Nat) : (nums k L).drop n = nums k (L.drop n) := by simp [nums, List.map_drop]
theorem nums_take (k : IntKind) (L : List Int) (n : Nat) : (nums k L).take n = nums k (L.take n) := by simp [nums, List.map_take]
theorem nums_zrep (k : IntKind) (v : Int) (n : Nat) : zrep [.i k v] n = nums k (List.replicate n v) := by
  simp [zrep, nums]
theorem nums_hasSl (k : IntKind) : ∀ (L : List Int), hasSlL (nums k L) = false
  | [] => rfl
  | x :: L => by simp only [nums_cons, hasSlL, hasSl1, Bool.false_or]; exact nums_hasSl k L

/-- A list of numbers as a slice. -/
abbrev slv (k : IntKind) (L : List Int) : AV := .sl (nums k L) L.length

def bools (L : List Bool) : List AV := L.map .b
theorem bools_length (L : List Bool) : (bools L).length = L.length := by simp [bools]
theorem bools_nil : bools [] = [] := rfl
theorem bools_cons (x : Bool) (L : List Bool) : bools (x :: L) = .b x :: bools L := rfl
theorem bools_get {L : List Bool} {j : Nat} (h : j < L.length) : (bools L)[j]? = some (.b (nb L j)) := by simp [bools, nb, h]
theorem bools_set (L : List Bool) (j : Nat) (v : Bool) : (bools L).set j (.b v) = bools (L.set j v) := by simp [bools, List.map_set]
theorem bools_snoc (L : List Bool) (v : Bool) : bools L ++ [.b v] = bools (L ++ [v]) := by simp [bools]
theorem bools_zrep (v : Bool) (n : Nat) : zrep [.b v] n = bools (List.replicate n v) := by simp [zrep, bools]
theorem bools_hasSl : ∀ (L : List Bool), hasSlL (bools L) = false
  | [] => rfl
  | x :: L => by simp only [bools_cons, hasSlL, hasSl1, Bool.false_or]; exact bools_hasSl L

/-! ### Slices of slices -/

def vecs (k : IntKind) (L : List (List Int)) : List AV := L.map (slv k)
theorem vecs_length (k : IntKind) (L : List (List Int)) : (vecs k L).length = L.length := by simp [vecs]
theorem vecs_nil (k : IntKind) : vecs k [] = [] := rfl
theorem vecs_cons (k : IntKind) (x : List Int) (L : List (List Int)) : vecs k (x :: L) = slv k x :: vecs k L := rfl
theorem vecs_get {k : IntKind} {L : List (List Int)} {j : Nat} (h : j < L.length) : (vecs k L)[j]? = some (slv k (nv L j)) := by simp [vecs, nv, h]
theorem vecs_snoc (k : IntKind) (L : List (List Int)) (v : List Int) : vecs k L ++ [slv k v] = vecs k (L ++ [v]) := by simp [vecs]

/-! ### Slicing -/

def idxO (n : Nat) : Option AV → Option Nat | none => some n | some v => idx v
theorem slcV_sl {sz : Nat} {cs : List AV} {n l h : Nat} {lo hi : Option AV} (h1 : idxO 0 lo = some l) (h2 : idxO n hi = some h) (h3 : l ≤ h) (h4 : h ≤ n) : slcV sz (.sl cs n) lo hi none = some (.sl ((cs.drop (l * sz)).take ((h - l) * sz)) (h - l)) := by
  have e : (Nat.ble l h && Nat.ble h n) = true := by simp [h3, h4]
  have e2 : Nat.ble n n = true := by simp
  have e3 : ∀ k, Nat.ble 0 k = true := fun k => by simp
  have e4 : Nat.ble l h = true := by simp [h3]
  have e5 : Nat.ble h n = true := by simp [h4]
  cases lo <;> cases hi <;> simp only [idxO, Option.some.injEq] at h1 h2
  · subst h1; subst h2; simp [slcV, e2, e3]
  · subst h1; simp [slcV, h2, e3, e5]
  · subst h2; simp [slcV, h1, e2, e4]
  · simp [slcV, h1, h2, e4, e5]


/-! ### What is flat goes as it is -/

section
variable {x : AV} (h : x.flat = true)
include h
theorem fl_map (f : AV → AV) : x.mapR f = f x := by cases x <;> first | rfl | cases h
theorem fl_kill (d : Nat) : kill1 d x = x := by cases x <;> first | rfl | cases h
theorem fl_frz (d : Nat) (cs : List AV) : frz1 d cs x = x := by cases x <;> first | rfl | cases h
theorem fl_enterS (j : Nat) (r : List AV) : enterS j (x :: r) = (j, x) :: enterS (j + 1) r := by cases x <;> first | rfl | cases h
theorem fl_enterL (j : Nat) (r : List AV) : enterL j (x :: r) = enterL (j + 1) r := by cases x <;> first | rfl | cases h
theorem fl_lentOf (l : List (Nat × List AV)) (j : Nat) (r : List AV) : lentOf l j (x :: r) = lentOf l (j + 1) r := by cases x <;> first | rfl | cases h
theorem fl_toArg (l : List (Nat × List AV)) : toArg l x = some x := by cases x <;> first | rfl | cases h
theorem fl_isRs : isRs x = false := by cases x <;> first | rfl | cases h
theorem fl_toRet (np : Nat) (l : List (Nat × List AV)) (all : List AV) : toRet np l all x = some x := by cases x <;> first | rfl | cases h
theorem fl_from1 : fromRet1 x = some x := by cases x <;> first | rfl | cases h
theorem fl_from : fromRet x = some x := by cases x <;> first | rfl | cases h
theorem fl_cells : cellsOf 1 x = some [x] := by cases x <;> first | rfl | cases h
theorem fl_countR (d : Nat) (r : List AV) : countR d (x :: r) = countR d r := by cases x <;> first | rfl | cases h
end

/-- A slice of numbers, or none. -/
def IsL (k : IntKind) (x : AV) (L : List Int) : Prop := x = slv k L ∨ (x = .z ∧ L = [])
section
variable {k : IntKind} {x : AV} {L : List Int}
theorem IsL.mk (k : IntKind) (L : List Int) : IsL k (slv k L) L := .inl rfl
theorem IsL.none (k : IntKind) : IsL k .z [] := .inr ⟨rfl, rfl⟩
theorem IsL.flat (h : IsL k x L) : x.flat = true := by rcases h with rfl | ⟨rfl, _⟩ <;> rfl
theorem lenV_isL (h : IsL k x L) : lenV x = some (.i .i64 L.length) := by rcases h with rfl | ⟨rfl, rfl⟩ <;> rfl
theorem ixSV_isL (h : IsL k x L) {k' : IntKind} {j : Int} (h0 : 0 ≤ j) (h1 : j < L.length) : ixSV 1 x (.i k' j) = some (.el (nums k L) j.toNat) := by
  rcases h with rfl | ⟨rfl, rfl⟩
  · rw [ixSV_sl h0 h1 (by rw [nums_length]; omega), Nat.mul_one]
  · simp at h1; omega
end

/-- A number of its kind. -/
def inK (k : IntKind) (n : Int) : Prop := k.min ≤ n ∧ n ≤ k.max
theorem inK_i64 {n : Int} (h : inK .i64 n) : -9223372036854775808 ≤ n ∧ n ≤ 9223372036854775807 := h

end Zab
