/- The abstract machine's pure operations stand for the model's. No statement of the program stands here. -/
import Derived.Test.YtohilcdmockfbaaDoorZabInv
import Derived.Test.YtohilcdmockfbaaDoorZabCmp
import Derived.WalkKit
namespace Zab
open Go
set_option linter.unusedSimpArgs false
set_option linter.unusedVariables false

/-- The errors' type is a pointer's. -/
structure EnvOk (E : Env) (sents : List Nat) : Prop where
  sent : ∀ g, memb sents g = true → (E.sent g).isSome = true
  ptr : (∃ g b, E.sent g = some b) → ∃ el i, E.P.underlying E.T = some (.pointer el) ∧ E.P.info? el = some i ∧ i.size ≠ 0
  cmp : (∃ g b, E.sent g = some b) → ∃ i, E.P.info? E.T = some i ∧ i.comparable = true
  mixed : E.P.follows .mixedOrders = true

section
variable {E : Env} {np : Nat} {w : World} {N : Nat → Prop} {A K : Nat → Nat}

theorem frep_const {v : Value} (h : flatConst v = true) : FRep E w N (constAV v) v := by
  unfold flatConst at h
  split at h <;> first | cases h | skip
  · exact .i _ _
  · exact .b _
  · exact .s _
  · exact .nl
  · exact .np
  · exact .nf
  · exact .z none

theorem vrep_const (v : Value) (hv : ∀ cs, v ≠ .agg cs) : VRep E np w N A K (constAV v) v := by
  by_cases h : flatConst v = true
  · exact .one (.flat (frep_const h))
  · have : constAV v = .gone := by
      unfold flatConst at h
      unfold constAV
      split at h <;> first | (exact absurd rfl h) | rfl
    rw [this]; exact .one (.gone v)

theorem FRep.list_map {l : List Value} (h : l.all flatConst = true) : ∀ j (h1 : j < (l.map constAV).length) (h2 : j < l.length), FRep E w N (l.map constAV)[j] l[j] := by
  intro j h1 h2
  simp only [List.getElem_map]
  exact frep_const (List.all_eq_true.1 h _ (List.getElem_mem h2))

theorem vrep_int {k : IntKind} {n : Int} {v : Value} (h : VRep E np w N A K (.i k n) v) : v = .int k n := by
  cases h with | one h => cases h with | flat h => cases h; rfl
theorem vrep_bool {x : Bool} {v : Value} (h : VRep E np w N A K (.b x) v) : v = .bool x := by
  cases h with | one h => cases h with | flat h => cases h; rfl
theorem vrep_str {x : ByteArray} {v : Value} (h : VRep E np w N A K (.s x) v) : v = .string x := by
  cases h with | one h => cases h with | flat h => cases h; rfl
theorem vrep_nl {v : Value} (h : VRep E np w N A K .nl v) : v = .nilIface := by
  cases h with | one h => cases h with | flat h => cases h; rfl
theorem vrep_np {v : Value} (h : VRep E np w N A K .np v) : v = .pointer none := by
  cases h with | one h => cases h with | flat h => cases h; rfl
theorem vrep_er {g : Nat} {v : Value} (h : VRep E np w N A K (.er g) v) : ∃ b, E.sent g = some b ∧ v = E.errV b := by
  cases h with | one h => cases h with | flat h => cases h with | er g b h => exact ⟨b, h, rfl⟩
theorem vrep_z {v : Value} (h : VRep E np w N A K .z v) : ∃ base, v = .slice base 0 0 := by
  cases h with | one h => cases h with | flat h => cases h with | z base => exact ⟨base, rfl⟩
theorem vrep_rf {d o : Nat} {v : Value} (h : VRep E np w N A K (.rf d o) v) : v = .pointer (some ⟨A d, o, none⟩) := by
  cases h with | one h => cases h with
    | flat h => cases h
    | rf => rfl
theorem vrep_gl {g : Nat} {v : Value} (h : VRep E np w N A K (.gl g) v) : v = .pointer (some ⟨g, 0, none⟩) := by
  cases h with | one h => cases h with
    | flat h => cases h
    | gl => rfl
theorem vrep_rs {d o n sz : Nat} {v : Value} (h : VRep E np w N A K (.rs d o n sz) v) : ∃ base c, v = .slice base n c ∧ np ≤ d ∧ n ≤ c ∧ o + c * sz ≤ K d ∧ (0 < K d → base = some ⟨A d, o, none⟩) := by
  cases h with | one h => cases h with
    | flat h => cases h
    | rs _ _ _ _ base c hd hn hk hb => exact ⟨base, c, rfl, hd, hn, hk, hb⟩
theorem vrep_sl {cs : List AV} {n : Nat} {v : Value} (h : VRep E np w N A K (.sl cs n) v) : ∃ (base : Option Addr) (c : Nat) (f : Nat → Value), v = .slice base n c ∧ n ≤ c ∧
    (cs = [] ∨ ∃ blk off, base = some ⟨blk, off, none⟩ ∧ N blk ∧ ∀ j, j < cs.length → w.cell? ⟨blk, off + j, none⟩ = some (f j)) ∧ ∀ j (hj : j < cs.length), FRep E w N (cs[j]) (f j) := by
  cases h with | one h => cases h with
    | flat h => cases h with | sl _ _ base c f hn h0 h1 => exact ⟨base, c, f, rfl, hn, h0, h1⟩
theorem vrep_el {cs : List AV} {o : Nat} {v : Value} (h : VRep E np w N A K (.el cs o) v) : ∃ (blk off : Nat) (f : Nat → Value), v = .pointer (some ⟨blk, off + o, none⟩) ∧ N blk ∧
    (∀ j, j < cs.length → w.cell? ⟨blk, off + j, none⟩ = some (f j)) ∧ ∀ j (hj : j < cs.length), FRep E w N (cs[j]) (f j) := by
  cases h with | one h => cases h with
    | flat h => cases h
    | el _ _ blk off f hN hc h1 => exact ⟨blk, off, f, rfl, hN, hc, h1⟩
theorem vrep_ag {cs : List AV} {v : Value} (h : VRep E np w N A K (.ag cs) v) : ∃ l : List Value, v = .agg l.toArray ∧ cs.length = l.length ∧ ∀ j (h1 : j < cs.length) (h2 : j < l.length), FRep E w N cs[j] l[j] := by
  cases h with | one h => cases h with
    | flat h => cases h
    | ag _ l hl h => exact ⟨l, rfl, hl, h⟩
theorem vrep_tp {l : List AV} {v : Value} (h : VRep E np w N A K (.tp l) v) : ∃ vs : List Value, v = .tuple vs.toArray ∧ l.length = vs.length ∧ ∀ j (h1 : j < l.length) (h2 : j < vs.length), V1 E np w N A K l[j] vs[j] := by
  cases h with
  | one h => cases h with | flat h => cases h
  | tp _ vs hl h => exact ⟨vs, rfl, hl, h⟩
theorem vrep_fn {f : Nat} {l : List AV} {v : Value} (h : VRep E np w N A K (.fn f l) v) : ∃ vs : List Value, v = .func (.func f) #[] vs.toArray ∧ l.length = vs.length ∧ ∀ j (h1 : j < l.length) (h2 : j < vs.length), V1 E np w N A K l[j] vs[j] := by
  cases h with
  | one h => cases h with
    | flat h => cases h
    | fn f => exact ⟨[], rfl, rfl, fun j h1 => by simp at h1⟩
  | fn _ _ vs hl h => exact ⟨vs, rfl, hl, h⟩
theorem vrep_flat {x : AV} {v : Value} (h : VRep E np w N A K x v) (hx : x.flat = true) : FRep E w N x v := by
  cases h with
  | one h => cases h <;> first | assumption | (simp [AV.flat] at hx)
  | tp => simp [AV.flat] at hx
  | fn => simp [AV.flat] at hx
theorem V1.ofFlat {x : AV} {v : Value} (h : FRep E w N x v) : VRep E np w N A K x v := .one (.flat h)
end

theorem Rel.eval {C : Ctx} {A K : Nat → Nat} {S : St} {a : Act} {w : World} (R : Rel C A K S a w) (x : Operand) : VRep C.E C.np w (Still C A K S.l w) A K (evalO S.s x) (a.eval x) := by
  cases x with
  | tmp t => exact R.slot t
  | const v =>
    cases v
    case agg cs =>
      simp only [evalO, Act.eval]
      cases h : cs.toList.all flatConst
      · exact .one (.gone _)
      · have := V1.ag (E := C.E) (np := C.np) (w := w) (N := Still C A K S.l w) (A := A) (K := K) (cs.toList.map constAV) cs.toList (by simp) (FRep.list_map h)
        simpa using VRep.one this
    all_goals (simp only [evalO, Act.eval]; refine vrep_const _ ?_; intro cs h; cases h)
  | global g => exact .one (.gl g)
  | func f => exact .one (.fn f)

section
variable {C : Ctx} {A K : Nat → Nat} {S : St} {a : Act} {w : World}

theorem shift_sound {P : Program} {op : BinOp} {k yk : IntKind} {x y : Int} {r : AV} (h : shiftV op k x y = some r) : ∃ v, (Op.shift op k x yk y).run P w = .ok v w ∧ ∀ (E : Env) (N : Nat → Prop), FRep E w N r v := by
  unfold shiftV at h
  by_cases hy : y < 0
  · simp [hy] at h
  · simp only [hy, decide_false, cond_false] at h
    unfold Op.shift
    rw [if_neg hy]
    cases op <;> first
      | (simp only [Option.some.injEq] at h; subst h; exact ⟨_, rfl, fun _ _ => .i _ _⟩)
      | cases h

theorem bit_sound {P : Program} {op : BinOp} {k : IntKind} {x y : Int} {r : AV} (h : bitV op k x y = some r) : ∃ v, (Op.intBits op k x y).run P w = .ok v w ∧ ∀ (E : Env) (N : Nat → Prop), FRep E w N r v := by
  unfold bitV at h
  unfold Op.intBits
  cases op <;> first
    | (simp only [Option.some.injEq] at h; subst h; exact ⟨_, rfl, fun _ _ => .i _ _⟩)
    | cases h

theorem int_sound {P : Program} {t : TypeId} {op : BinOp} {k : IntKind} {x y : Int} {r : AV} (h1 : op ≠ .shl) (h2 : op ≠ .shr) (h : intV op k x y = some r) :
    ∃ v, (Go.binOp op t (.int k x) (.int k y)).run P w = .ok v w ∧ ∀ (E : Env) (N : Nat → Prop), FRep E w N r v := by
  cases op <;> first | exact absurd rfl h1 | exact absurd rfl h2 | skip
  all_goals simp only [intV] at h
  all_goals simp only [Go.binOp, ne_eq, not_true_eq_false, if_false, ↓reduceIte]
  case quo =>
    by_cases hy : y = 0
    · simp [hy] at h
    · simp only [hy, decide_false, cond_false, Option.some.injEq] at h
      subst h; simp only [Op.intDiv, hy, if_false]; exact ⟨_, rfl, fun _ _ => .i _ _⟩
  case rem =>
    by_cases hy : y = 0
    · simp [hy] at h
    · simp only [hy, decide_false, cond_false, Option.some.injEq] at h
      subst h; simp only [Op.intDiv, hy, if_false]; exact ⟨_, rfl, fun _ _ => .i _ _⟩
  case and => exact bit_sound h
  case or => exact bit_sound h
  case xor => exact bit_sound h
  case andNot => exact bit_sound h
  case eql =>
    simp only [Option.some.injEq] at h; subst h
    exact ⟨_, rfl, fun _ _ => by have : (x == y) = decide (x = y) := rfl; rw [this]; exact .b _⟩
  case neq =>
    simp only [Option.some.injEq] at h; subst h
    exact ⟨_, rfl, fun _ _ => by have : (x != y) = !decide (x = y) := rfl; rw [this]; exact .b _⟩
  all_goals (simp only [Option.some.injEq] at h; subst h; exact ⟨_, rfl, fun _ _ => by constructor⟩)

end
end Zab
