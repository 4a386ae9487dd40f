/- Operations that may change places. No statement of the program stands here. -/
import Derived.Test.YtohilcdmockfbaaDoorZabStep
import Derived.Test.YtohilcdmockfbaaDoorZabCmp
namespace Zab
open Go
set_option linter.unusedSimpArgs false
set_option linter.unusedVariables false

theorem put_comm {α : Type} (l : List (Nat × α)) {i k : Nat} (h : i ≠ k) (v u : α) : put (put l i v) k u = put (put l k u) i v := by
  have lt : ∀ {a b : Nat}, a < b → Nat.blt a b = true := fun h => by simpa [Nat.blt_eq] using h
  have nlt : ∀ {a b : Nat}, ¬ a < b → Nat.blt a b = false := fun h => by rw [← Bool.not_eq_true, Nat.blt_eq]; exact h
  have neq : ∀ {a b : Nat}, a ≠ b → Nat.beq a b = false := fun h => by rw [← Bool.not_eq_true, Nat.beq_eq]; exact h
  induction l with
  | nil =>
    rcases Nat.lt_or_gt_of_ne h with h1 | h1
    · simp [put, lt h1, nlt (Nat.lt_asymm h1), neq h, neq (Ne.symm h)]
    · simp [put, lt h1, nlt (Nat.lt_asymm h1), neq h, neq (Ne.symm h)]
  | cons p r ih =>
    obtain ⟨j, x⟩ := p
    rcases Nat.lt_trichotomy j i with h1 | h1 | h1 <;> rcases Nat.lt_trichotomy j k with h2 | h2 | h2
    · rcases Nat.lt_or_gt_of_ne h with h3 | h3
      · simp [put, lt h1, lt h2, lt h3, nlt (Nat.lt_asymm h3), neq h, neq (Ne.symm h)]
      · simp [put, lt h1, lt h2, lt h3, nlt (Nat.lt_asymm h3), neq h, neq (Ne.symm h)]
    · have h2 := h2.symm; subst h2
      simp [put, lt h1, nlt (Nat.lt_asymm h1), nlt (Nat.lt_irrefl k), neq (Ne.symm h), Nat.beq_refl]
    · have h3 : k < i := by omega
      simp [put, lt h1, lt h3, nlt (Nat.lt_asymm h2), nlt (Nat.lt_asymm h3), neq (Ne.symm h), neq (show k ≠ j by omega)]
    · have h1 := h1.symm; subst h1
      simp [put, lt h2, nlt (Nat.lt_asymm h2), nlt (Nat.lt_irrefl i), neq h, Nat.beq_refl]
    · omega
    · have h1 := h1.symm; subst h1
      simp [put, nlt (Nat.lt_irrefl i), nlt (Nat.lt_asymm h2), Nat.beq_refl, neq (show k ≠ i by omega)]
    · have h3 : i < k := by omega
      simp [put, lt h2, lt h3, nlt (Nat.lt_asymm h1), nlt (Nat.lt_asymm h3), neq h, neq (show i ≠ j by omega)]
    · have h2 := h2.symm; subst h2
      simp [put, nlt (Nat.lt_irrefl k), nlt (Nat.lt_asymm h1), Nat.beq_refl, neq h]
    · simp [put, nlt (Nat.lt_asymm h1), nlt (Nat.lt_asymm h2), neq (show i ≠ j by omega), neq (show k ≠ j by omega), ih]

theorem get_put_ne (l : List (Nat × AV)) {i j : Nat} (h : j ≠ i) (v : AV) : get (put l i v) j = get l j := by
  have lt : ∀ {a b : Nat}, a < b → Nat.blt a b = true := fun h => by simpa [Nat.blt_eq] using h
  have nlt : ∀ {a b : Nat}, ¬ a < b → Nat.blt a b = false := fun h => by rw [← Bool.not_eq_true, Nat.blt_eq]; exact h
  have neq : ∀ {a b : Nat}, a ≠ b → Nat.beq a b = false := fun h => by rw [← Bool.not_eq_true, Nat.beq_eq]; exact h
  induction l with
  | nil => simp [put, get, neq (Ne.symm h)]
  | cons p r ih =>
    obtain ⟨k, x⟩ := p
    rcases Nat.lt_trichotomy k i with h1 | h1 | h1
    · simp [put, lt h1, get, neq (Ne.symm h)]
    · have h1 := h1.symm; subst h1; simp [put, nlt (Nat.lt_irrefl i), Nat.beq_refl, get, neq (Ne.symm h)]
    · simp [put, nlt (Nat.lt_asymm h1), neq (show i ≠ k by omega), get, ih]

theorem meets_of {l m : List Nat} (h : meets l m = false) : ∀ x ∈ l, x ∉ m := by
  have mem : ∀ {ds : List Nat} {d : Nat}, memb ds d = true ↔ d ∈ ds := by
    intro ds d
    induction ds with
    | nil => simp [memb]
    | cons x r ih => simp only [memb, Bool.or_eq_true, ih, List.mem_cons, Nat.beq_eq]; constructor <;> rintro (h | h) <;> simp [h]
  induction l with
  | nil => intro x hx; cases hx
  | cons y r ih =>
    simp only [meets, Bool.or_eq_false_iff] at h
    intro x hx
    rcases List.mem_cons.1 hx with rfl | hx
    · intro hm; rw [← mem] at hm; rw [hm] at h; cases h.1
    · exact ih h.2 x hx

theorem tmpsOf_mem : ∀ {l : List Operand} {t : Nat}, Operand.tmp t ∈ l → t ∈ tmpsOf l
  | x :: r, t, h => by
    rcases List.mem_cons.1 h with h | h
    · subst h; simp [tmpsOf]
    · have := tmpsOf_mem h
      cases x <;> simp [tmpsOf, this]

theorem evalO_put {s : List (Nat × AV)} {d : Nat} {v : AV} {x : Operand} (h : ∀ t, x = .tmp t → t ≠ d) : evalO (put s d v) x = evalO s x := by
  cases x with
  | tmp t => exact get_put_ne _ (h t rfl) _
  | const v => cases v <;> rfl
  | _ => rfl

section
variable {ρ ρ' : Operand → AV}

theorem evalL_congr : ∀ {l : List Operand}, (∀ x ∈ l, ρ x = ρ' x) → evalL ρ l = evalL ρ' l
  | [], _ => rfl
  | x :: r, h => by rw [evalL, evalL, h x (by simp), evalL_congr fun y hy => h y (by simp [hy])]

theorem fillV_congr : ∀ {ps : List (Nat × Nat × Operand)}, (∀ x ∈ ps.map (fun p => p.2.2), ρ x = ρ' x) → ∀ cs, fillV ρ ps cs = fillV ρ' ps cs
  | [], _, _ => rfl
  | (off, sz, x) :: r, h, cs => by
    have hx := h x (by simp)
    have ih := fillV_congr (ps := r) fun y hy => h y (by simp only [List.map_cons, List.mem_cons]; exact .inr hy)
    simp only [fillV, hx]
    cases cellsOf sz (ρ' x) with
    | none => rfl
    | some vs =>
      simp only
      cases Nat.ble (off + sz) cs.length
      · rfl
      · simp only [cond_true]
        split <;> exact ih _

theorem pureV_congr {op : AOp} (h : ∀ x ∈ opnds op, ρ x = ρ' x) : pureV ρ op = pureV ρ' op := by
  cases op <;> simp only [opnds, List.mem_cons, List.mem_nil_iff, or_false, forall_eq_or_imp, forall_eq] at h
  case build zero ps => simp only [pureV, fillV_congr h]
  case bsl n zero ps => simp only [pureV, fillV_congr h]
  case mkfn f l => simp only [pureV, evalL_congr h]
  case mn l => simp only [pureV, evalL_congr h]
  case mx l => simp only [pureV, evalL_congr h]
  case len s x => cases s <;> simp only [pureV, h]
  case slc sz x lo hi mx =>
    obtain ⟨h1, h2⟩ := h
    have o : ∀ {y : Option Operand}, (∀ z ∈ y.toList, ρ z = ρ' z) → y.map ρ = y.map ρ' := fun {y} hy => by
      cases y with
      | none => rfl
      | some z => simp [hy z (by simp)]
    simp only [pureV, h1, o fun z hz => h2 z (by simp at hz ⊢; exact .inl hz), o fun z hz => h2 z (by simp at hz ⊢; exact .inr (.inl hz)), o fun z hz => h2 z (by simp at hz ⊢; exact .inr (.inr hz))]
  all_goals first | rfl | simp only [pureV, h] | (obtain ⟨h1, h2⟩ := h; simp only [pureV, h1, h2]) | (obtain ⟨h1, h2, h3⟩ := h; simp only [pureV, h1, h2, h3])

theorem readV_congr {call : CallF} {l : List (Nat × List AV)} {op : AOp} (h : ∀ x ∈ opnds op, ρ x = ρ' x) : readV call ρ l op = readV call ρ' l op := by
  cases op <;> first | rfl | skip
  case load m x =>
    have := h x (by simp [opnds])
    cases x <;> simp only [readV, this]
  case call f xs =>
    have h1 := h f (by simp [opnds])
    have h2 := evalL_congr (ρ := ρ) (ρ' := ρ') (l := xs) fun y hy => h y (by simp [opnds, hy])
    simp only [readV, h1, h2]

theorem writeV_congr {l : List (Nat × List AV)} {op : AOp} (h : ∀ x ∈ opnds op, ρ x = ρ' x) : writeV ρ l op = writeV ρ' l op := by
  cases op <;> first | rfl | skip
  case store sz x v =>
    have h1 := h x (by simp [opnds])
    have h2 := h v (by simp [opnds])
    simp only [writeV, h1, h2]
end

/-- What an operation of the first three classes does: a value for its slot, other rows. -/
def act (call : CallF) (o : AOper) (s : List (Nat × AV)) (l : List (Nat × List AV)) : Option (Option AV × List (Nat × List AV)) :=
  match wants s o.guard with
  | some true =>
    (match o.op.cls with
     | 0 => (pureV (evalO s) o.op).map fun v => (some v, l)
     | 1 => (readV call (evalO s) l o.op).map fun v => (some v, l)
     | _ => (writeV (evalO s) l o.op).map fun l => (none, l))
  | some false => some (some .un, l)
  | none => none

def res (S : St) (dst : Option Nat) (p : Option AV × List (Nat × List AV)) : St :=
  { s := match dst, p.1 with | some d, some v => put S.s d v | _, _ => S.s, l := p.2 }

theorem step_act {call : CallF} {o : AOper} (h : o.op.cls ≤ 2) (S : St) : step call o S = (act call o S.s S.l).map (res S o.dst) := by
  unfold step act
  cases wants S.s o.guard with
  | none => rfl
  | some b =>
    cases b
    · simp only [Option.map_some, res, St.putD]; cases o.dst <;> rfl
    · have hc : o.op.cls = 0 ∨ o.op.cls = 1 ∨ o.op.cls = 2 := by omega
      rcases hc with hc | hc | hc
      · simp only [hc, Option.map_map]; congr 1; funext v; simp only [Function.comp, res, St.putD]; cases o.dst <;> rfl
      · simp only [hc, Option.map_map]; congr 1; funext v; simp only [Function.comp, res, St.putD]; cases o.dst <;> rfl
      · simp only [hc, Option.map_map]; congr 1; funext v; simp only [Function.comp, res]; cases o.dst <;> rfl

theorem wants_put {s : List (Nat × AV)} {d : Nat} {v : AV} {g : Option (Nat × Bool)} (h : ∀ t b, g = some (t, b) → t ≠ d) : wants (put s d v) g = wants s g := by
  cases g with
  | none => rfl
  | some p => obtain ⟨t, b⟩ := p; simp only [wants, get_put_ne s (h t b rfl) v]

theorem act_put {call : CallF} {o : AOper} {s : List (Nat × AV)} {l : List (Nat × List AV)} {d : Nat} {v : AV} (h : d ∉ looksA o) : act call o (put s d v) l = act call o s l := by
  have h1 : ∀ x ∈ opnds o.op, evalO (put s d v) x = evalO s x := fun x hx => evalO_put fun t e => by
    subst e
    rintro rfl
    exact h (by simp only [looksA, List.mem_append]; exact .inl (tmpsOf_mem hx))
  have h2 : wants (put s d v) o.guard = wants s o.guard := wants_put fun t b e => by
    rintro rfl
    exact h (by simp only [looksA, List.mem_append, e]; exact .inr (by simp))
  unfold act
  rw [h2, pureV_congr h1, readV_congr h1, writeV_congr h1]

/-- Class 0 does not look at rows; no class but 2 turns them. -/
theorem act_rows {call : CallF} {o : AOper} {s : List (Nat × AV)} (l l' : List (Nat × List AV)) (h : o.op.cls = 0) : act call o s l' = (act call o s l).map fun p => (p.1, l') := by
  unfold act
  cases wants s o.guard with
  | none => rfl
  | some b =>
    cases b
    · rfl
    · simp only [h, Option.map_map]; congr 1

theorem act_keeps {call : CallF} {o : AOper} {s : List (Nat × AV)} {l : List (Nat × List AV)} {p : Option AV × List (Nat × List AV)} (h : o.op.cls < 2) (ha : act call o s l = some p) : p.2 = l := by
  unfold act at ha
  split at ha <;> first | (cases ha; done) | skip
  · have hc : o.op.cls = 0 ∨ o.op.cls = 1 := by omega
    rcases hc with hc | hc
    · simp only [hc, Option.map_eq_some_iff] at ha; obtain ⟨v, _, rfl⟩ := ha; rfl
    · simp only [hc, Option.map_eq_some_iff] at ha; obtain ⟨v, _, rfl⟩ := ha; rfl
  · cases ha; rfl

theorem act_res {call : CallF} {a b : AOper} {S : St} {p : Option AV × List (Nat × List AV)} (hd : ∀ d, a.dst = some d → d ∉ looksA b) : act call b (res S a.dst p).s p.2 = act call b S.s p.2 := by
  unfold res
  cases ha : a.dst with
  | none => rfl
  | some d =>
    cases hp : p.1 with
    | none => rfl
    | some v => simp only; exact act_put (hd d ha)

theorem res_comm {S : St} {d e : Option Nat} (h : ∀ x y, d = some x → e = some y → x ≠ y) (p q : Option AV) (l : List (Nat × List AV)) : res (res S d (p, l)) e (q, l) = res (res S e (q, l)) d (p, l) := by
  unfold res
  cases d <;> cases e <;> cases p <;> cases q <;> first | rfl | skip
  rename_i x y u v
  simp only
  rw [put_comm _ (h x y rfl rfl)]

/-- TWO FREE OPERATIONS CHANGE PLACES. -/
theorem free_comm {call : CallF} {a b : AOper} (h : free a b = true) (S : St) : (step call a S).bind (step call b) = (step call b S).bind (step call a) := by
  simp only [free, Bool.and_eq_true, Bool.not_eq_true'] at h
  obtain ⟨⟨h1, h2⟩, h3⟩ := h
  have m1 := meets_of h1
  have m2 := meets_of h2
  have da : ∀ d, a.dst = some d → d ∉ looksA b := fun d e hm => m1 d (by simp [dstA, e]) (List.mem_append_left _ hm)
  have dab : ∀ x y, a.dst = some x → b.dst = some y → x ≠ y := fun x y e1 e2 hh => m1 x (by simp [dstA, e1]) (List.mem_append_right _ (by simp [dstA, e2, hh]))
  have db : ∀ d, b.dst = some d → d ∉ looksA a := fun d e hm => m2 d (by simp [dstA, e]) hm
  have ca : a.op.cls ≤ 2 := by
    revert h3; generalize a.op.cls = x; generalize b.op.cls = y; intro h3
    match x, y, h3 with
    | 0, _, _ => omega
    | 1, _, _ => omega
    | 2, _, _ => omega
    | n + 3, _, h => cases h
  have cb : b.op.cls ≤ 2 := by
    revert h3; generalize a.op.cls = x; generalize b.op.cls = y; intro h3
    match x, y, h3 with
    | _, 0, _ => omega
    | _, 1, _ => omega
    | _, 2, _ => omega
    | 0, n + 3, h => cases h
    | 1, n + 3, h => cases h
    | 2, n + 3, h => cases h
    | m + 3, n + 3, h => cases h
  have cc : (a.op.cls < 2 ∧ b.op.cls < 2) ∨ (a.op.cls = 2 ∧ b.op.cls = 0) ∨ (a.op.cls = 0 ∧ b.op.cls = 2) := by
    revert h3; generalize a.op.cls = x; generalize b.op.cls = y; intro h3
    match x, y, h3 with
    | 0, 0, _ => omega
    | 0, 1, _ => omega
    | 1, 0, _ => omega
    | 1, 1, _ => omega
    | 0, 2, _ => omega
    | 2, 0, _ => omega
    | 1, n + 2, h => cases h
    | 0, n + 3, h => cases h
    | 2, n + 1, h => cases h
    | m + 3, n, h => cases h
  have fa : ∀ S, step call a S = (act call a S.s S.l).map (res S a.dst) := step_act ca
  have fb : ∀ S, step call b S = (act call b S.s S.l).map (res S b.dst) := step_act cb
  have e1 : ∀ p, step call b (res S a.dst p) = (act call b S.s p.2).map (res (res S a.dst p) b.dst) := fun p => by
    rw [fb]; show Option.map _ (act call b (res S a.dst p).s p.2) = _; rw [act_res da]
  have e2 : ∀ p, step call a (res S b.dst p) = (act call a S.s p.2).map (res (res S b.dst p) a.dst) := fun p => by
    rw [fa]; show Option.map _ (act call a (res S b.dst p).s p.2) = _; rw [act_res db]
  rw [fa S, fb S]
  rcases cc with ⟨c1, c2⟩ | ⟨c1, c2⟩ | ⟨c1, c2⟩
  · cases ha : act call a S.s S.l with
    | none =>
      cases hb : act call b S.s S.l with
      | none => rfl
      | some q =>
        simp only [Option.map_none, Option.bind_none, Option.map_some, Option.bind_some, e2]
        rw [act_keeps c2 hb, ha]; rfl
    | some p =>
      simp only [Option.map_some, Option.bind_some, e1]
      rw [act_keeps c1 ha]
      cases hb : act call b S.s S.l with
      | none => rfl
      | some q =>
        simp only [Option.map_some, Option.bind_some, e2]
        rw [act_keeps c2 hb, ha]
        simp only [Option.map_some]
        have hp := act_keeps c1 ha
        have hq := act_keeps c2 hb
        obtain ⟨p1, p2⟩ := p
        obtain ⟨q1, q2⟩ := q
        simp only at hp hq
        subst hp; subst hq
        rw [res_comm dab]
  · cases ha : act call a S.s S.l with
    | none =>
      cases hb : act call b S.s S.l with
      | none => rfl
      | some q =>
        simp only [Option.map_none, Option.bind_none, Option.map_some, Option.bind_some, e2]
        rw [act_keeps (by omega) hb, ha]; rfl
    | some p =>
      simp only [Option.map_some, Option.bind_some, e1]
      rw [act_rows S.l p.2 c2]
      cases hb : act call b S.s S.l with
      | none => rfl
      | some q =>
        simp only [Option.map_some, Option.bind_some, e2]
        have hq := act_keeps (by omega) hb
        rw [hq, ha]
        simp only [Option.map_some]
        obtain ⟨p1, p2⟩ := p
        obtain ⟨q1, q2⟩ := q
        simp only at hq
        subst hq
        simp only [res]
        cases hda : a.dst <;> cases hdb : b.dst <;> cases p1 <;> cases q1 <;> first | rfl | skip
        rename_i x y u v
        simp only
        rw [put_comm _ (dab x y hda hdb)]
  · cases hb : act call b S.s S.l with
    | none =>
      cases ha : act call a S.s S.l with
      | none => rfl
      | some q =>
        simp only [Option.map_none, Option.bind_none, Option.map_some, Option.bind_some, e1]
        rw [act_keeps (by omega) ha, hb]; rfl
    | some p =>
      simp only [Option.map_some, Option.bind_some, e2]
      rw [act_rows S.l p.2 c1]
      cases ha : act call a S.s S.l with
      | none => rfl
      | some q =>
        simp only [Option.map_some, Option.bind_some, e1]
        have hq := act_keeps (by omega) ha
        rw [hq, hb]
        simp only [Option.map_some]
        obtain ⟨p1, p2⟩ := p
        obtain ⟨q1, q2⟩ := q
        simp only at hq
        subst hq
        simp only [res]
        cases hda : a.dst <;> cases hdb : b.dst <;> cases p1 <;> cases q1 <;> first | rfl | skip
        rename_i x y u v
        simp only
        rw [put_comm _ (dab x y hda hdb)]

end Zab
