/- What an operation that is no pure one was. No statement of the program stands here. -/
import Derived.Test.YtohilcdmockfbaaDoorZabCmp
namespace Zab
open Go
set_option linter.unusedSimpArgs false
set_option linter.unusedVariables false

section
variable {P : Program} {T : TypeId} {sents : List Nat} {ann : Ann} {o : Oper}

theorem load_inv {m : Option Nat} {x : Operand} (h : cOp P T sents ann o = some (.load m x)) : ∃ t, o.op = .load t x ∧ aggOfT P t = some m ∧ (∀ g, x = .global g → memb sents g = true) := by
  unfold cOp cCall at h
  simp only [Bool.cond_eq_ite] at h
  split at h
  case h_19 t y ho =>
    split at h <;> first | (cases h; done) | skip
    rename_i m' hm
    cases y with
    | global g =>
      simp only at h
      split at h <;> first | (cases h; done) | skip
      split at h <;> cases h
    | _ => simp only at h; cases h; exact ⟨t, ho, hm, fun g' e => by cases e⟩
  all_goals (exfalso; revert h; repeat' split)
  all_goals (intro h; cases h)

theorem ldg_inv {g : Nat} (h : cOp P T sents ann o = some (.ldg g)) : ∃ t, o.op = .load t (.global g) ∧ aggOfT P t = some none ∧ memb sents g = true := by
  unfold cOp cCall at h
  simp only [Bool.cond_eq_ite] at h
  split at h
  case h_19 t y ho =>
    split at h <;> first | (cases h; done) | skip
    rename_i m' hm
    cases y with
    | global g =>
      simp only at h
      split at h <;> first | (cases h; done) | skip
      rename_i hg
      split at h <;> cases h
      exact ⟨t, ho, hm, hg⟩
    | _ => simp only at h; cases h
  all_goals (exfalso; revert h; repeat' split)
  all_goals (intro h; cases h)

theorem call_inv {f : Operand} {xs : List Operand} (h : cOp P T sents ann o = some (.call f xs)) : ∃ c, o.op = .call c ∧ c.callee = .value f ∧ c.args.toList = xs := by
  unfold cOp cCall at h
  simp only [Bool.cond_eq_ite] at h
  split at h
  case h_23 c ho =>
    split at h
    · rename_i g hc
      split at h <;> cases h
      exact ⟨c, ho, hc, rfl⟩
    all_goals (exfalso; revert h; repeat' split)
    all_goals (intro h; cases h)
  all_goals (exfalso; revert h; repeat' split)
  all_goals (intro h; cases h)

theorem callK_inv {f : Operand} {xs : List Operand} {own : List (Nat × Nat)} (h : cOp P T sents ann o = some (.callK f xs own)) : ∃ c, o.op = .call c ∧ c.callee = .value f ∧ c.args.toList = xs := by
  unfold cOp cCall at h
  simp only [Bool.cond_eq_ite] at h
  split at h
  case h_23 c ho =>
    split at h
    · rename_i g hc
      split at h <;> cases h
      exact ⟨c, ho, hc, rfl⟩
    all_goals (exfalso; revert h; repeat' split)
    all_goals (intro h; cases h)
  all_goals (exfalso; revert h; repeat' split)
  all_goals (intro h; cases h)

theorem store_inv {sz : Nat} {x v : Operand} (h : cOp P T sents ann o = some (.store sz x v)) : ∃ t, o.op = .store t x v ∧ sizeOfT P t = some sz := by
  unfold cOp cCall at h
  simp only [Bool.cond_eq_ite] at h
  split at h
  case h_20 t y u ho =>
    split at h <;> first | (cases h; done) | skip
    rename_i hs
    cases h
    exact ⟨t, ho, hs⟩
  all_goals (exfalso; revert h; repeat' split)
  all_goals (intro h; cases h)

theorem box_inv {sz : Nat} {v : Operand} (h : cOp P T sents ann o = some (.box sz v)) : ∃ e k, o.op = .box e v ∧ sz = k + 1 := by
  unfold cOp cCall at h
  simp only [Bool.cond_eq_ite] at h
  split at h
  case h_21 e u ho =>
    split at h <;> first | (cases h; done) | skip
    cases h
    exact ⟨e, _, ho, rfl⟩
  all_goals (exfalso; revert h; repeat' split)
  all_goals (intro h; cases h)

theorem alloc_inv {zs : List AV} (h : cOp P T sents ann o = some (.alloc zs)) : ∃ e, o.op = .alloc e ∧ (zeroOfT P e).bind zeroCellsOf = some zs := by
  unfold cOp cCall at h
  simp only [Bool.cond_eq_ite] at h
  split at h
  case h_22 e ho =>
    split at h <;> first | (cases h; done) | skip
    rename_i hz
    cases h
    exact ⟨e, ho, hz⟩
  all_goals (exfalso; revert h; repeat' split)
  all_goals (intro h; cases h)

theorem nilR_inv {sz : Nat} {x : Operand} (h : cOp P T sents ann o = some (.nilR sz x)) : o.op = .assign x := by
  unfold cOp cCall at h
  simp only [Bool.cond_eq_ite] at h
  split at h
  case h_2 y ho =>
    split at h <;> first | (cases h; done) | skip
    split at h <;> cases h
    exact ho
  all_goals (exfalso; revert h; repeat' split)
  all_goals (intro h; cases h)

theorem mkR_inv {zs : List AV} {b : Nat} {l c : Operand} (h : cOp P T sents ann o = some (.mkR zs b l c)) : ∃ t e sz b', o.op = .makeSlice t l c ∧ isSliceT P t = some e ∧ sizeOfT P e = some (sz + 1) ∧ bytesOfT P e = some (b' + 1) ∧ (zeroOfT P e).bind zeroCellsOf = some zs ∧ zs.length = sz + 1 ∧ b = b' + 1 := by
  unfold cOp cCall at h
  simp only [Bool.cond_eq_ite] at h
  split at h
  case h_14 t l' c' ho =>
    split at h <;> first | (cases h; done) | skip
    rename_i e h1
    split at h <;> first | (cases h; done) | skip
    rename_i sz b' zs' h2 h3 h4
    split at h <;> first | (cases h; done) | skip
    rename_i h5
    split at h <;> cases h
    exact ⟨t, e, sz, b', ho, h1, h2, h3, h4, Nat.eq_of_beq_eq_true h5, rfl⟩
  all_goals (exfalso; revert h; repeat' split)
  all_goals (intro h; cases h)

theorem bslR_inv {n : Nat} {zs : List AV} {ps : List (Nat × Nat × Operand)} (h : cOp P T sents ann o = some (.bslR n zs ps)) : ∃ t e sz parts, o.op = .buildSlice t n parts ∧ isSliceT P t = some e ∧ sizeOfT P e = some (sz + 1) ∧ (zeroOfT P e).bind zeroCellsOf = some zs ∧ zs.length = sz + 1 ∧ n * (sz + 1) ≤ 16777216 ∧ ps = rowParts (sz + 1) parts.toList := by
  unfold cOp cCall at h
  simp only [Bool.cond_eq_ite] at h
  split at h
  case h_13 t n' parts ho =>
    split at h <;> first | (cases h; done) | skip
    rename_i e h1
    split at h <;> first | (cases h; done) | skip
    rename_i sz zs' h2 h3
    split at h <;> first | (cases h; done) | skip
    rename_i h5
    simp only [Bool.and_eq_true, Nat.beq_eq, Nat.ble_eq] at h5
    split at h <;> cases h
    exact ⟨t, e, sz, parts, ho, h1, h2, h3, h5.1, h5.2, rfl⟩
  all_goals (exfalso; revert h; repeat' split)
  all_goals (intro h; cases h)

theorem app_inv {sz b : Nat} {x y : Operand} (h : cOp P T sents ann o = some (.app sz b x y)) : ∃ c t u e e' k b' v, o.op = .call c ∧ c.callee = .builtin .append ∧ c.args.toList = [x, y] ∧ c.argTypes.toList = [t, u] ∧ isSliceT P t = some e ∧ isSliceT P u = some e' ∧
    sizeOfT P e = some (k + 1) ∧ bytesOfT P e = some (b' + 1) ∧ zeroOfT P e = some v ∧ v.cells.size = k + 1 ∧ sz = k + 1 ∧ b = b' + 1 := by
  unfold cOp cCall at h
  simp only [Bool.cond_eq_ite] at h
  split at h
  case h_23 c ho =>
    split at h
    case h_5 hc =>
      split at h <;> first | (cases h; done) | skip
      rename_i x' y' t u h1 h2
      split at h <;> first | (cases h; done) | skip
      rename_i e e' h3 h4
      split at h <;> first | (cases h; done) | skip
      rename_i k b' v h5 h6 h7
      split at h <;> first | (cases h; done) | skip
      rename_i h8
      cases h
      exact ⟨c, t, u, e, e', k, b', v, ho, hc, h1, h2, h3, h4, h5, h6, h7, Nat.eq_of_beq_eq_true h8, rfl, rfl⟩
    all_goals (exfalso; revert h; repeat' split)
    all_goals (intro h; cases h)
  all_goals (exfalso; revert h; repeat' split)
  all_goals (intro h; cases h)

end
end Zab
