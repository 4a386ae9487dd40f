/- Calls. No statement of the program stands here. -/
import Derived.Test.YtohilcdmockfbaaDoorZabApp
namespace Zab
open Go
set_option linter.unusedSimpArgs false
set_option linter.unusedVariables false

def oneV : List Value → Value
  | [x] => x
  | l => .tuple l.toArray

/-- What a call comes to. -/
structure Out (E : Env) (w : World) (M X : Nat → Prop) (A K : Nat → Nat) (args : List AV) (r : Ret) (cv : Value) (w' : World) : Prop where
  mk ::
  ex : ∃ (S : St) (a : Act) (A' K' : Nat → Nat) (nt : Nat) (raws rs : List AV) (cvs : List Value),
    Rel ⟨E, w, M, X, args.length, nt, A, K⟩ A' K' S a w' ∧ raws.length = cvs.length ∧
    (∀ j (h1 : j < raws.length) (h2 : j < cvs.length), VRep E args.length w' (Still ⟨E, w, M, X, args.length, nt, A, K⟩ A' K' S.l w') A' K' raws[j] cvs[j]) ∧
    toRets args.length S.l raws raws = some rs ∧ lentOf S.l 0 args = some r.lent ∧ r.v = one rs ∧ cv = oneV cvs

structure CallSound (E : Env) (call : CallF) : Prop where
  body : ∀ f args r, call f args = some r → ∃ fn c, E.P.funcs[f]? = some fn ∧ (fn.name == "runtime.NumGoroutine") = false ∧ fn.body = some c
  calls : ∀ f args r, call f args = some r → ∀ (w : World) (M X : Nat → Prop) (A K : Nat → Nat) (cargs : Array Value),
    Rel ⟨E, w, M, X, args.length, cargs.size, A, K⟩ A K ⟨enterS 0 args, enterL 0 args⟩ ⟨cargs, []⟩ w → cargs.size = args.length →
    Calls E.P f cargs w fun e w' => ∃ cv, e = .returned cv ∧ Out E w M X A K args r cv w'

/-! ### Arguments -/

def slotOf (j : Nat) : AV → AV
  | .op _ => .rf j 0
  | x => x

theorem get_enterS : ∀ (args : List AV) (j i : Nat), get (enterS j args) i = if j ≤ i then (match args[i - j]? with | some x => slotOf i x | none => .gone) else .gone
  | [], j, i => by simp [enterS, get]
  | x :: r, j, i => by
    have ih := get_enterS r (j + 1) i
    have main : ∀ v, get ((j, v) :: enterS (j + 1) r) i = if j ≤ i then (match (x :: r)[i - j]? with | some y => if i = j then v else slotOf i y | none => .gone) else .gone := by
      intro v
      simp only [get]
      by_cases h : j = i
      · subst h; simp [Nat.beq_refl]
      · have : Nat.beq j i = false := by rw [← Bool.not_eq_true, Nat.beq_eq]; exact h
        simp only [this, cond_false, ih]
        by_cases h2 : j ≤ i
        · have h3 : j + 1 ≤ i := by omega
          rw [if_pos h3, if_pos h2]
          have : i - j = (i - (j + 1)) + 1 := by omega
          rw [this, List.getElem?_cons_succ]
          simp [show ¬ i = j from fun e => h e.symm]
        · rw [if_neg (by omega), if_neg h2]
    have fin : ∀ v, v = slotOf j x → get ((j, v) :: enterS (j + 1) r) i = if j ≤ i then (match (x :: r)[i - j]? with | some x => slotOf i x | none => .gone) else .gone := by
      intro v hv
      rw [main v]
      by_cases h2 : j ≤ i
      · rw [if_pos h2, if_pos h2]
        by_cases h : i = j
        · subst h; simp [hv]
        · simp [h]
      · rw [if_neg h2, if_neg h2]
    cases x <;> exact fin _ rfl

theorem look_enterL : ∀ (args : List AV) (j i : Nat), look (enterL j args) i = if j ≤ i then (match args[i - j]? with | some (.op cs) => some cs | _ => none) else none
  | [], j, i => by simp [enterL, look]
  | x :: r, j, i => by
    have ih := look_enterL r (j + 1) i
    have skip : ∀ (y : AV), (∀ cs, y ≠ .op cs) → look (enterL (j + 1) r) i = if j ≤ i then (match (y :: r)[i - j]? with | some (.op cs) => some cs | _ => none) else none := by
      intro y hy
      rw [ih]
      by_cases h2 : j ≤ i
      · rw [if_pos h2]
        by_cases h : i = j
        · subst h
          rw [if_neg (by omega)]
          simp only [Nat.sub_self, List.getElem?_cons_zero]
          cases y <;> first | rfl | exact absurd rfl (hy _)
        · rw [if_pos (by omega)]
          have : i - j = (i - (j + 1)) + 1 := by omega
          rw [this, List.getElem?_cons_succ]
      · rw [if_neg (by omega), if_neg h2]
    cases x with
    | op cs =>
      simp only [enterL, look]
      by_cases h : j = i
      · subst h; simp [Nat.beq_refl]
      · have : Nat.beq j i = false := by rw [← Bool.not_eq_true, Nat.beq_eq]; exact h
        simp only [this, cond_false, ih]
        by_cases h2 : j ≤ i
        · rw [if_pos (by omega), if_pos h2]
          have : i - j = (i - (j + 1)) + 1 := by omega
          rw [this, List.getElem?_cons_succ]
        · rw [if_neg (by omega), if_neg h2]
    | _ => exact skip _ (by simp)

/-- What is lent, and what is seen. -/
inductive ArgOf (l : List (Nat × List AV)) : AV → AV → Prop where
  | lent (d : Nat) (cs : List AV) (h : look l d = some cs) : ArgOf l (.rf d 0) (.op cs)
  | val (x v : AV) (h : toArg l x = some v) : ArgOf l x v

theorem memb_iff {ds : List Nat} {d : Nat} : memb ds d = true ↔ d ∈ ds := by
  induction ds with
  | nil => simp [memb]
  | cons x r ih => simp only [memb, Bool.or_eq_true, ih, List.mem_cons, Nat.beq_eq]; constructor <;> rintro (h | h) <;> simp [h]

theorem lends_of {l : List (Nat × List AV)} : ∀ {as vs : List AV} {ds : List Nat}, lends l as = some (vs, ds) →
    vs.length = as.length ∧ (∀ j (h1 : j < as.length) (h2 : j < vs.length), ArgOf l as[j] vs[j]) ∧
    (∀ d, d ∈ ds → ∃ j, ∃ h : j < as.length, as[j] = .rf d 0) ∧
    (∀ j (h : j < as.length) d, as[j] = .rf d 0 → d ∈ ds) ∧
    (∀ i j (h1 : i < as.length) (h2 : j < as.length) d, as[i] = .rf d 0 → as[j] = .rf d 0 → i = j)
  | [], vs, ds, h => by
    simp only [lends, Option.some.injEq, Prod.mk.injEq] at h
    obtain ⟨rfl, rfl⟩ := h
    exact ⟨rfl, fun j h => by simp at h, fun d h => by simp at h, fun j h => by simp at h, fun i j h => by simp at h⟩
  | x :: r, vs, ds, h => by
    have key : (∃ d cs vs' ds', x = .rf d 0 ∧ look l d = some cs ∧ lends l r = some (vs', ds') ∧ memb ds' d = false ∧ vs = .op cs :: vs' ∧ ds = d :: ds') ∨
        (∃ v vs', (∀ d, x ≠ .rf d 0) ∧ toArg l x = some v ∧ lends l r = some (vs', ds) ∧ vs = v :: vs') := by
      unfold lends at h
      split at h
      · rename_i hh; cases hh
      · rename_i d r' hh
        cases hh
        cases hl : look l d with
        | none => simp [hl] at h
        | some cs =>
          cases hr : lends l r with
          | none => simp [hl, hr] at h
          | some p =>
            obtain ⟨vs', ds'⟩ := p
            simp only [hl, hr] at h
            cases hm : memb ds' d
            · simp only [hm, cond_false, Option.some.injEq, Prod.mk.injEq] at h
              exact .inl ⟨d, cs, vs', ds', rfl, hl, rfl, hm, h.1.symm, h.2.symm⟩
            · simp [hm] at h
      · rename_i x' r' hx hh
        cases hh
        cases ht : toArg l x with
        | none => simp [ht] at h
        | some v =>
          cases hr : lends l r with
          | none => simp [ht, hr] at h
          | some p =>
            obtain ⟨vs', ds'⟩ := p
            simp only [ht, hr, Option.some.injEq, Prod.mk.injEq] at h
            obtain ⟨rfl, rfl⟩ := h
            exact .inr ⟨v, vs', fun d e => hx d e, rfl, rfl, rfl⟩
    rcases key with ⟨d, cs, vs', ds', rfl, hl, hr, hm, rfl, rfl⟩ | ⟨v, vs', hx, ht, hr, rfl⟩
    · obtain ⟨i1, i2, i3, i4, i5⟩ := lends_of hr
      have hnot : d ∉ ds' := fun h => by rw [← memb_iff] at h; rw [hm] at h; cases h
      refine ⟨by simp [i1], fun j h1 h2 => ?_, fun e he => ?_, fun j h1 e he => ?_, fun i j h1 h2 e hi hj => ?_⟩
      · cases j with
        | zero => exact .lent d cs hl
        | succ j => exact i2 j (by simpa using h1) (by simpa using h2)
      · rcases List.mem_cons.1 he with rfl | he
        · exact ⟨0, by simp, rfl⟩
        · obtain ⟨j, hj, hh⟩ := i3 e he; exact ⟨j + 1, by simpa using hj, hh⟩
      · cases j with
        | zero => simp only [List.getElem_cons_zero, AV.rf.injEq, and_true] at he; subst he; simp
        | succ j => exact List.mem_cons_of_mem _ (i4 j (by simpa using h1) e (by simpa using he))
      · cases i with
        | zero =>
          cases j with
          | zero => rfl
          | succ j =>
            simp only [List.getElem_cons_zero, AV.rf.injEq, and_true] at hi
            subst hi
            exact absurd (i4 j (by simpa using h2) d (by simpa using hj)) hnot
        | succ i =>
          cases j with
          | zero =>
            simp only [List.getElem_cons_zero, AV.rf.injEq, and_true] at hj
            subst hj
            exact absurd (i4 i (by simpa using h1) d (by simpa using hi)) hnot
          | succ j => exact congrArg (· + 1) (i5 i j (by simpa using h1) (by simpa using h2) e (by simpa using hi) (by simpa using hj))
    · obtain ⟨i1, i2, i3, i4, i5⟩ := lends_of hr
      refine ⟨by simp [i1], fun j h1 h2 => ?_, fun e he => ?_, fun j h1 e he => ?_, fun i j h1 h2 e hi hj => ?_⟩
      · cases j with
        | zero => exact .val x v ht
        | succ j => exact i2 j (by simpa using h1) (by simpa using h2)
      · obtain ⟨j, hj, hh⟩ := i3 e he; exact ⟨j + 1, by simpa using hj, hh⟩
      · cases j with
        | zero => exact absurd he (hx e)
        | succ j => exact i4 j (by simpa using h1) e (by simpa using he)
      · cases i with
        | zero => exact absurd hi (hx e)
        | succ i =>
          cases j with
          | zero => exact absurd hj (hx e)
          | succ j => exact congrArg (· + 1) (i5 i j (by simpa using h1) (by simpa using h2) e (by simpa using hi) (by simpa using hj))

theorem anyRs_of : ∀ {as : List AV} {j : Nat} (h : j < as.length) {d o n sz : Nat}, as[j] = .rs d o n sz → anyRs as = true
  | x :: r, 0, h, d, o, n, sz, hx => by simp only [List.getElem_cons_zero] at hx; subst hx; rfl
  | x :: r, j + 1, h, d, o, n, sz, hx => by simp only [anyRs, Bool.or_eq_true]; right; exact anyRs_of (by simpa using h) (by simpa using hx)

theorem seesAny_of {ds : List Nat} : ∀ {as : List AV}, seesAny ds as = false → ∀ {j : Nat} (h : j < as.length) {d o n sz : Nat}, as[j] = .rs d o n sz → d ∉ ds
  | x :: r, hs, 0, h, d, o, n, sz, hx => by
    simp only [List.getElem_cons_zero] at hx; subst hx
    simp only [seesAny, Bool.or_eq_false_iff] at hs
    exact fun hm => by rw [← memb_iff] at hm; rw [hs.1] at hm; cases hm
  | x :: r, hs, j + 1, h, d, o, n, sz, hx => by
    have : seesAny ds r = false := by
      cases x <;> first | exact hs | (simp only [seesAny, Bool.or_eq_false_iff] at hs; exact hs.2)
    exact seesAny_of this (by simpa using h) (by simpa using hx)

end Zab
