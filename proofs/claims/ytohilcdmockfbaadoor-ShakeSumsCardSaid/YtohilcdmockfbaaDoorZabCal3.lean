/- Calls: the caller behind the callee's end. No statement of the program stands here. -/
import Derived.Test.YtohilcdmockfbaaDoorZabCal2
namespace Zab
open Go
set_option linter.unusedSimpArgs false
set_option linter.unusedVariables false

theorem lends_cons {l : List (Nat × List AV)} {x : AV} {r vs : List AV} {ds : List Nat} (h : lends l (x :: r) = some (vs, ds)) :
    (∃ d cs vs' ds', x = .rf d 0 ∧ look l d = some cs ∧ lends l r = some (vs', ds') ∧ memb ds' d = false ∧ vs = .op cs :: vs' ∧ ds = d :: ds') ∨
        (∃ v vs', (∀ d, x ≠ .rf d 0) ∧ toArg l x = some v ∧ lends l r = some (vs', ds) ∧ vs = v :: vs') := by
  unfold lends at h
  split at h
  · rename_i hh; cases hh
  · rename_i d r' hh
    cases hh
    cases hl : look l d with
    | none => simp [hl] at h
    | some cs =>
      cases hr : lends l r with
      | none => simp [hl, hr] at h
      | some p =>
        obtain ⟨vs', ds'⟩ := p
        simp only [hl, hr] at h
        cases hm : memb ds' d
        · simp only [hm, cond_false, Option.some.injEq, Prod.mk.injEq] at h
          exact .inl ⟨d, cs, vs', ds', rfl, hl, rfl, hm, h.1.symm, h.2.symm⟩
        · simp [hm] at h
  · rename_i x' r' hx hh
    cases hh
    cases ht : toArg l x with
    | none => simp [ht] at h
    | some v =>
      cases hr : lends l r with
      | none => simp [ht, hr] at h
      | some p =>
        obtain ⟨vs', ds'⟩ := p
        simp only [ht, hr, Option.some.injEq, Prod.mk.injEq] at h
        obtain ⟨rfl, rfl⟩ := h
        exact .inr ⟨v, vs', fun d e => hx d e, rfl, rfl, rfl⟩

theorem putAll_of {l L : List (Nat × List AV)} : ∀ {as vs : List AV} {ds : List Nat} {lent : List (List AV)} {l0 l' : List (Nat × List AV)} {j0 : Nat}, lends l as = some (vs, ds) → lentOf L j0 vs = some lent → putAll l0 ds lent = some l' →
    (∀ e, e ∉ ds → look l' e = look l0 e) ∧ (∀ j (h : j < as.length) d, as[j] = .rf d 0 → ∃ css, look L (j0 + j) = some css ∧ look l' d = some css ∧ css ∈ lent)
  | [], vs, ds, lent, l0, l', j0, h1, h2, h3 => by
    simp only [lends, Option.some.injEq, Prod.mk.injEq] at h1
    obtain ⟨rfl, rfl⟩ := h1
    simp only [lentOf, Option.some.injEq] at h2
    subst h2
    simp only [putAll, Option.some.injEq] at h3
    subst h3
    exact ⟨fun _ _ => rfl, fun j h => by simp at h⟩
  | x :: r, vs, ds, lent, l0, l', j0, h1, h2, h3 => by
    rcases lends_cons h1 with ⟨d, cs, vs', ds', rfl, hl, hr, hm, rfl, rfl⟩ | ⟨v, vs', hx, ht, hr, rfl⟩
    · simp only [lentOf] at h2
      cases hq : look L j0 with
      | none => simp [hq] at h2
      | some c =>
        cases hp : lentOf L (j0 + 1) vs' with
        | none => simp [hq, hp] at h2
        | some css =>
          simp only [hq, hp, Option.some.injEq] at h2
          subst h2
          simp only [putAll] at h3
          obtain ⟨i1, i2⟩ := putAll_of hr hp h3
          have hnot : d ∉ ds' := fun h => by rw [← memb_iff] at h; rw [hm] at h; cases h
          refine ⟨fun e he => ?_, fun j h e hj => ?_⟩
          · simp only [List.mem_cons, not_or] at he
            rw [i1 e he.2, look_put, if_neg he.1]
          · cases j with
            | zero =>
              simp only [List.getElem_cons_zero, AV.rf.injEq, and_true] at hj
              subst hj
              exact ⟨c, hq, by rw [i1 d hnot, look_put, if_pos rfl], by simp⟩
            | succ j =>
              obtain ⟨css', p1, p2, p3⟩ := i2 j (by simpa using h) e (by simpa using hj)
              exact ⟨css', by rw [← p1]; congr 1; omega, p2, List.mem_cons_of_mem _ p3⟩
    · have hv : ∀ cs, v ≠ .op cs := fun cs e => by subst e; exact toArg_op ht
      have h2' : lentOf L (j0 + 1) vs' = some lent := by
        cases v <;> first | exact h2 | exact absurd rfl (hv _)
      obtain ⟨i1, i2⟩ := putAll_of hr h2' h3
      refine ⟨i1, fun j h e hj => ?_⟩
      cases j with
      | zero => exact absurd hj (hx e)
      | succ j =>
        obtain ⟨css', p1, p2, p3⟩ := i2 j (by simpa using h) e (by simpa using hj)
        exact ⟨css', by rw [← p1]; congr 1; omega, p2, p3⟩

theorem hasSlLL_of : ∀ {ll : List (List AV)}, hasSlLL ll = false → ∀ cs ∈ ll, hasSlL cs = false
  | [], _, _, h => by cases h
  | x :: r, h, cs, hm => by
    simp only [hasSlLL, Bool.or_eq_false_iff] at h
    rcases List.mem_cons.1 hm with rfl | hm
    · exact h.1
    · exact hasSlLL_of h.2 cs hm

theorem hasSlL_of : ∀ {cs : List AV}, hasSlL cs = false → ∀ j (h : j < cs.length), hasSl1 cs[j] = false
  | [], _, j, h => by simp at h
  | x :: r, h, j, hj => by
    simp only [hasSlL, Bool.or_eq_false_iff] at h
    cases j with
    | zero => exact h.1
    | succ j => exact hasSlL_of h.2 j (by simpa using hj)

section
variable {C : Ctx} {A K : Nat → Nat} {S : St} {a : Act} {w : World}

/-- The callee's context. -/
abbrev calC (C : Ctx) (A K : Nat → Nat) (l : List (Nat × List AV)) (w : World) (as : List AV) (ds : List Nat) (np nt : Nat) : Ctx :=
  ⟨C.E, w, calM A K ds, calX C A K l as ds, np, nt, calA A as, calA K as⟩

structure Back (C : Ctx) (A K : Nat → Nat) (S : St) (a : Act) (w : World) (as vs : List AV) (ds : List Nat) (nt : Nat) (A' K' : Nat → Nat) (S' : St) (a' : Act) (w' : World) (lent : List (List AV)) (l' : List (Nat × List AV)) : Prop where
  R : Rel C A K S a w
  hl : lends S.l as = some (vs, ds)
  R' : Rel (calC C A K S.l w as ds vs.length nt) A' K' S' a' w'
  hlent : lentOf S'.l 0 vs = some lent
  hput : putAll S.l ds lent = some l'
  bare : anyRs as = true → hasSlLL lent = false

variable {as vs : List AV} {ds : List Nat} {nt : Nat} {A' K' : Nat → Nat} {S' : St} {a' : Act} {w' : World} {lent : List (List AV)} {l' : List (Nat × List AV)}

theorem Back.dsLook (B : Back C A K S a w as vs ds nt A' K' S' a' w' lent l') {d : Nat} (hd : d ∈ ds) : ∃ (j : Nat) (h : j < as.length) (css : List AV), as[j] = .rf d 0 ∧ look S.l d ≠ none ∧ look S'.l j = some css ∧ look l' d = some css ∧ css ∈ lent ∧ A' j = A d ∧ K' j = K d ∧ j < vs.length := by
  obtain ⟨e1, e2, e3, e4, e5⟩ := lends_of B.hl
  obtain ⟨j, h, hj⟩ := e3 d hd
  obtain ⟨css, p1, p2, p3⟩ := (putAll_of B.hl B.hlent B.hput).2 j h d hj
  rw [Nat.zero_add] at p1
  have hv : j < vs.length := by rw [e1]; exact h
  have harg := B.R'.arg j hv (by rw [p1]; simp)
  have hne : look S.l d ≠ none := by
    have := e2 j h hv
    rw [hj] at this
    generalize vs[j] = v at this
    cases this with
    | lent _ cs hh => rw [hh]; simp
    | val _ _ hh => simp [toArg] at hh
  exact ⟨j, h, css, hj, hne, p1, p2, p3, by rw [harg.1]; exact calA_of h hj, by rw [harg.2]; exact calA_of h hj, hv⟩

theorem Back.live (B : Back C A K S a w as vs ds nt A' K' S' a' w' lent l') {d : Nat} : Live l' K d ↔ Live S.l K d := by
  unfold Live
  by_cases hd : d ∈ ds
  · obtain ⟨j, h, css, _, h1, _, h2, _⟩ := B.dsLook hd
    rw [h2]; simp [h1]
  · rw [(putAll_of B.hl B.hlent B.hput).1 d hd]

theorem Back.dsLive (B : Back C A K S a w as vs ds nt A' K' S' a' w' lent l') {d : Nat} (hd : d ∈ ds) (hk : 0 < K d) : Live S.l K d := by
  obtain ⟨j, h, css, _, h1, _⟩ := B.dsLook hd
  exact ⟨h1, hk⟩

theorem Back.same (B : Back C A K S a w as vs ds nt A' K' S' a' w' lent l') {b : Nat} (hb : b < w.heap.size) (hn : ∀ d, d ∈ ds → 0 < K d → A d ≠ b) : w'.heap[b]? = w.heap[b]? :=
  B.R'.frame b hb fun ⟨d, h1, h2, h3⟩ => hn d h1 h2 h3

theorem Back.still (B : Back C A K S a w as vs ds nt A' K' S' a' w' lent l') {b : Nat} (hb : Still C A K S.l w b) : Still C A K l' w' b ∧ w'.heap[b]? = w.heap[b]? :=
  ⟨⟨Nat.lt_of_lt_of_le hb.1 B.R'.size, hb.2.1, fun d hd => hb.2.2 d (B.live.1 hd)⟩, B.same hb.1 fun d hd hk => hb.2.2 d (B.dsLive hd hk)⟩

/-- What the callee leaves alone at its end, the caller may see. -/
theorem Back.theirs (B : Back C A K S a w as vs ds nt A' K' S' a' w' lent l') (hany : anyRs as = false) {b : Nat} (hb : Still (calC C A K S.l w as ds vs.length nt) A' K' S'.l w' b) : Still C A K l' w' b := by
  refine ⟨hb.1, fun hx => hb.2.1 (.inl hx), fun d hd he => ?_⟩
  have hd' := B.live.1 hd
  by_cases h : d ∈ ds
  · obtain ⟨j, hj, css, _, _, h1, _, _, h2, h3, _⟩ := B.dsLook h
    exact hb.2.2 j ⟨by rw [h1]; simp, by rw [h3]; exact hd'.2⟩ (by rw [h2]; exact he)
  · exact hb.2.1 (.inr ⟨hany, d, hd', h, he⟩)

/-- A state whose values are told through fewer blocks. -/
structure RelN (C : Ctx) (A K : Nat → Nat) (S : St) (a : Act) (w : World) (N : Nat → Prop) : Prop where
  slot : ∀ i, VRep C.E C.np w N A K (get S.s i) (a.tmps.getD i undef)
  row : ∀ d cs, look S.l d = some cs → Row C.E w N (A d) (K d) cs
  sub : ∀ b, N b → Still C A K S.l w b
  inj : ∀ d e, Live S.l K d → Live S.l K e → A d = A e → d = e
  own : ∀ d, Live S.l K d → (C.w0.heap.size ≤ A d ∨ C.M (A d)) ∧ ¬ C.X (A d) ∧ ¬ C.E.fixed (A d)
  arg : ∀ d, d < C.np → look S.l d ≠ none → A d = C.A0 d ∧ K d = C.K0 d
  glob : GOk C.E w
  frame : ∀ b, b < C.w0.heap.size → ¬ C.M b → w.heap[b]? = C.w0.heap[b]?
  size : C.w0.heap.size ≤ w.heap.size
  os : w.os = C.w0.os
  tape : w.tape = C.w0.tape
  output : w.output = C.w0.output
  defers : a.defers = []
  tsz : a.tmps.size = C.nt
  xlt : ∀ b, C.X b → b < C.w0.heap.size

theorem RelN.rel {N : Nat → Prop} (R : RelN C A K S a w N) : Rel C A K S a w :=
  { slot := fun i => (R.slot i).mono R.sub (fun _ _ => rfl) (fun _ _ => ⟨rfl, rfl⟩), row := fun d cs h => (R.row d cs h).mono R.sub (fun _ _ => rfl) (fun _ => rfl)
    inj := R.inj, own := R.own, arg := R.arg, glob := R.glob, frame := R.frame, size := R.size, os := R.os, tape := R.tape, output := R.output, defers := R.defers, tsz := R.tsz, xlt := R.xlt }

/-- A row out of a block that nothing names. -/
theorem RelN.reroot {N : Nat → Prop} (R : RelN C A K S a w N) {d b k : Nat} {cs : List AV} (hnp : C.np ≤ d)
    (hown : 0 < k → (C.w0.heap.size ≤ b ∨ C.M b) ∧ ¬ C.X b ∧ ¬ C.E.fixed b) (hN : 0 < k → ∀ b', N b' → b' ≠ b) (hA : 0 < k → ∀ e, e ≠ d → Live S.l K e → A e ≠ b) (hrow : Row C.E w N b k cs) :
    RelN C (upd A d b) (upd K d k) { s := mapS (kill1 d) S.s, l := put (del S.l d) d cs } a w N := by
  constructor
  case slot =>
    intro i
    show VRep _ _ _ _ _ _ (get (mapS (kill1 d) S.s) i) _
    rw [get_mapS _ rfl]
    refine ((R.slot i).kill d).mono (fun _ h => h) (fun _ _ => rfl) fun e he => ?_
    have := namesV_kill he
    exact ⟨upd_other _ _ _ this, upd_other _ _ _ this⟩
  case row =>
    intro e cs' he
    simp only [look_put, look_del] at he
    by_cases hed : e = d
    · subst hed
      simp only [if_true, Option.some.injEq] at he
      subst he
      rw [upd_same, upd_same]; exact hrow
    · simp only [hed, if_false] at he
      rw [upd_other _ _ _ hed, upd_other _ _ _ hed]
      exact R.row e cs' he
  case sub =>
    intro b' hb'
    have hs := R.sub b' hb'
    refine ⟨hs.1, hs.2.1, fun e he => ?_⟩
    rcases live_upd.1 he with ⟨rfl, hk⟩ | ⟨hne, hl⟩
    · rw [upd_same]; exact fun e => hN hk b' hb' e.symm
    · rw [upd_other _ _ _ hne]; exact hs.2.2 e hl
  case inj =>
    intro e f he hf h
    rcases live_upd.1 he with ⟨rfl, hk⟩ | ⟨hne, hl⟩ <;> rcases live_upd.1 hf with ⟨rfl, hk'⟩ | ⟨hnf, hl'⟩
    · rfl
    · rw [upd_same, upd_other _ _ _ hnf] at h; exact absurd h.symm (hA hk f hnf hl')
    · rw [upd_same, upd_other _ _ _ hne] at h; exact absurd h (hA hk' e hne hl)
    · rw [upd_other _ _ _ hne, upd_other _ _ _ hnf] at h; exact R.inj e f hl hl' h
  case own =>
    intro e he
    rcases live_upd.1 he with ⟨rfl, hk⟩ | ⟨hne, hl⟩
    · rw [upd_same]; exact hown hk
    · rw [upd_other _ _ _ hne]; exact R.own e hl
  case arg =>
    intro e he hl
    have hne : e ≠ d := by omega
    rw [upd_other _ _ _ hne, upd_other _ _ _ hne]
    refine R.arg e he ?_
    simp only [look_put, look_del, hne, if_false] at hl
    exact hl
  case glob => exact R.glob
  case frame => exact R.frame
  case size => exact R.size
  case os => exact R.os
  case tape => exact R.tape
  case output => exact R.output
  case defers => exact R.defers
  case tsz => exact R.tsz
  case xlt => exact R.xlt

/-- What the caller's values are told through, behind the call. -/
def backN (C : Ctx) (A K : Nat → Nat) (l : List (Nat × List AV)) (w : World) (as : List AV) (ds : List Nat) (np nt : Nat) (A' K' : Nat → Nat) (lc : List (Nat × List AV)) (l' : List (Nat × List AV)) (w' : World) (b : Nat) : Prop :=
  Still C A K l w b ∨ (Still (calC C A K l w as ds np nt) A' K' lc w' b ∧ Still C A K l' w' b)

theorem Back.relN (B : Back C A K S a w as vs ds nt A' K' S' a' w' lent l') : RelN C A K { S with l := l' } a w' (backN C A K S.l w as ds vs.length nt A' K' S'.l l' w') where
  slot := fun i => (B.R.slot i).mono (fun b hb => .inl hb) (fun b hb => (B.still hb).2) (fun _ _ => ⟨rfl, rfl⟩)
  row := fun d cs h => by
    by_cases hd : d ∈ ds
    · obtain ⟨j, hj, css, _, _, h1, h2, h3, h4, h5, _⟩ := B.dsLook hd
      have : cs = css := by
        have h' : look l' d = some cs := h
        rw [h2] at h'; exact (Option.some.inj h').symm
      subst this
      have hrow := B.R'.row j cs h1
      rw [h4, h5] at hrow
      cases hany : anyRs as
      · exact hrow.mono (fun b hb => .inr ⟨hb, B.theirs hany hb⟩) (fun _ _ => rfl) (fun _ => rfl)
      · have hbare := hasSlLL_of (B.bare hany) cs h3
        exact ⟨hrow.le, fun hk => by
          obtain ⟨cc, e, p1, p2, p3⟩ := hrow.row hk
          exact ⟨cc, e, p1, p2, fun j hj => let ⟨v, q1, q2⟩ := p3 j hj; ⟨v, q1, q2.bare (hasSlL_of hbare j hj)⟩⟩⟩
    · have h' : look S.l d = some cs := by rw [← (putAll_of B.hl B.hlent B.hput).1 d hd]; exact h
      exact (B.R.row d cs h').mono (fun b hb => .inl hb) (fun b hb => (B.still hb).2) fun hk => by
        have hlive : Live S.l K d := ⟨by rw [h']; simp, hk⟩
        exact B.same (Live.lt B.R hlive) fun e he hke hh => by
          have := B.R.inj e d (B.dsLive he hke) hlive hh
          subst this; exact hd he
  sub := fun b hb => by
    rcases hb with hb | ⟨_, hb⟩
    · exact (B.still hb).1
    · exact hb
  inj := fun d e hd he h => B.R.inj d e (B.live.1 hd) (B.live.1 he) h
  own := fun d hd => B.R.own d (B.live.1 hd)
  arg := fun d hd h => B.R.arg d hd (by
    by_cases hm : d ∈ ds
    · obtain ⟨j, hj, css, _, h1, _⟩ := B.dsLook hm; exact h1
    · rw [← (putAll_of B.hl B.hlent B.hput).1 d hm]; exact h)
  glob := B.R'.glob
  frame := fun b hb hm => by
    rw [B.same (Nat.lt_of_lt_of_le hb B.R.size) fun d hd hk e => by
      rcases (B.R.own d (B.dsLive hd hk)).1 with h | h
      · omega
      · rw [e] at h; exact hm h]
    exact B.R.frame b hb hm
  size := Nat.le_trans B.R.size B.R'.size
  os := B.R'.os.trans B.R.os
  tape := B.R'.tape.trans B.R.tape
  output := B.R'.output.trans B.R.output
  defers := B.R.defers
  tsz := B.R.tsz
  xlt := B.R.xlt

theorem Back.rel (B : Back C A K S a w as vs ds nt A' K' S' a' w' lent l') : Rel C A K { S with l := l' } a w' := B.relN.rel

/-- A row that the callee made is new. -/
theorem Back.fresh (B : Back C A K S a w as vs ds nt A' K' S' a' w' lent l') {d : Nat} (hd : Live S'.l K' d) (hnp : vs.length ≤ d) : w.heap.size ≤ A' d ∧ A' d < w'.heap.size := by
  refine ⟨?_, Live.lt B.R' hd⟩
  rcases (B.R'.own d hd).1 with h | ⟨e, he, hk, hh⟩
  · exact h
  · exfalso
    obtain ⟨j, hj, css, _, _, h1, _, _, h2, h3, h4⟩ := B.dsLook he
    have := B.R'.inj j d ⟨by rw [h1]; simp, by rw [h3]; exact hk⟩ hd (by rw [h2]; exact hh)
    omega


theorem countR_of : ∀ {l : List AV} {d : Nat}, countR d l = 1 → ∀ i j (h1 : i < l.length) (h2 : j < l.length), names1 d l[i] → names1 d l[j] → i = j := by
  have zero : ∀ {l : List AV} {d : Nat}, countR d l = 0 → ∀ i (h : i < l.length), ¬ names1 d l[i] := by
    intro l
    induction l with
    | nil => intro d _ i h; simp at h
    | cons x r ih =>
      intro d h i hi
      have key : countR d r = 0 ∧ ¬ names1 d x := by
        cases x
        case rs e o n sz =>
          simp only [countR] at h
          cases hb : Nat.beq e d
          · simp only [hb, cond_false, Nat.zero_add] at h
            refine ⟨h, fun hn => ?_⟩
            simp only [names1] at hn; subst hn; rw [Nat.beq_refl] at hb; cases hb
          · simp only [hb, cond_true] at h; omega
        case rf e o =>
          simp only [countR] at h
          cases hb : Nat.beq e d
          · simp only [hb, cond_false, Nat.zero_add] at h
            refine ⟨h, fun hn => ?_⟩
            simp only [names1] at hn; subst hn; rw [Nat.beq_refl] at hb; cases hb
          · simp only [hb, cond_true] at h; omega
        all_goals exact ⟨h, fun hn => by simp [names1] at hn⟩
      cases i with
      | zero => exact key.2
      | succ i => simpa using ih key.1 i (by simpa using hi)
  intro l
  induction l with
  | nil => intro d _ i j h; simp at h
  | cons x r ih =>
    intro d h i j hi hj ni nj
    have key : (names1 d x ∧ countR d r = 0) ∨ (¬ names1 d x ∧ countR d r = 1) := by
      cases x
      case rs e o n sz =>
        simp only [countR] at h
        cases hb : Nat.beq e d
        · simp only [hb, cond_false, Nat.zero_add] at h
          refine .inr ⟨fun hn => ?_, h⟩
          simp only [names1] at hn; subst hn; rw [Nat.beq_refl] at hb; cases hb
        · simp only [hb, cond_true] at h
          exact .inl ⟨Nat.eq_of_beq_eq_true hb, by omega⟩
      case rf e o =>
        simp only [countR] at h
        cases hb : Nat.beq e d
        · simp only [hb, cond_false, Nat.zero_add] at h
          refine .inr ⟨fun hn => ?_, h⟩
          simp only [names1] at hn; subst hn; rw [Nat.beq_refl] at hb; cases hb
        · simp only [hb, cond_true] at h
          exact .inl ⟨Nat.eq_of_beq_eq_true hb, by omega⟩
      all_goals exact .inr ⟨fun hn => by simp [names1] at hn, h⟩
    rcases key with ⟨_, k0⟩ | ⟨kn, k1⟩
    · cases i with
      | zero =>
        cases j with
        | zero => rfl
        | succ j => exact absurd nj (zero k0 j (Nat.lt_of_succ_lt_succ hj))
      | succ i => exact absurd ni (zero k0 i (Nat.lt_of_succ_lt_succ hi))
    · cases i with
      | zero => exact absurd ni kn
      | succ i =>
        cases j with
        | zero => exact absurd nj kn
        | succ j => exact congrArg (· + 1) (ih k1 i j (by simpa using hi) (by simpa using hj) (by simpa using ni) (by simpa using nj))

/-- What one part of a result is. -/
inductive RetOf (np : Nat) (l : List (Nat × List AV)) (all : List AV) : AV → AV → Prop where
  | own (d n sz : Nat) (cs : List AV) (h : look l d = some cs) (hd : np ≤ d) (hl : cs.length = n * sz) (h1 : countR d all = 1) : RetOf np l all (.rs d 0 n sz) (.os cs n sz)
  | view (d off n sz : Nat) (cs : List AV) (h : look l d = some cs) (hd : np ≤ d) (hl : off + n * sz ≤ cs.length) (hw : ¬ (off = 0 ∧ cs.length = n * sz ∧ countR d all = 1)) : RetOf np l all (.rs d off n sz) (.sl ((cs.drop off).take (n * sz)) n)
  | ptr (d : Nat) (cs : List AV) (h : look l d = some cs) (hd : np ≤ d) (h1 : countR d all = 1) : RetOf np l all (.rf d 0) (.op cs)
  | val (x : AV) (hx : plain x = true) (hn : ∀ d, ¬ names1 d x) (ho : (∀ cs n sz, x ≠ .os cs n sz) ∧ (∀ cs, x ≠ .op cs)) : RetOf np l all x x

theorem toRet_of {np : Nat} {l : List (Nat × List AV)} {all : List AV} {x v : AV} (h : toRet np l all x = some v) : RetOf np l all x v := by
  cases x
  case rs d off n sz =>
    simp only [toRet] at h
    cases hl : look l d with
    | none => simp [hl] at h
    | some cs =>
      simp only [hl] at h
      cases hb : Nat.blt d np
      · simp only [hb, cond_false] at h
        have hd : np ≤ d := by
          have : ¬ d < np := by rw [← Nat.blt_eq, hb]; simp
          omega
        cases hw : (Nat.beq off 0 && (Nat.beq cs.length (n * sz) && Nat.beq (countR d all) 1))
        · simp only [hw, cond_false] at h
          cases hv : Nat.ble (off + n * sz) cs.length
          · simp [hv] at h
          · simp only [hv, cond_true, Option.some.injEq] at h
            subst h
            refine .view d off n sz cs hl hd (Nat.le_of_ble_eq_true hv) ?_
            rintro ⟨rfl, h2, h3⟩
            rw [h2, h3] at hw; simp at hw
        · simp only [hw, cond_true, Option.some.injEq] at h
          subst h
          simp only [Bool.and_eq_true, Nat.beq_eq] at hw
          obtain ⟨rfl, h2, h3⟩ := hw
          exact .own d n sz cs hl hd h2 h3
      · simp [hb] at h
  case rf d off =>
    simp only [toRet] at h
    cases hl : look l d with
    | none => simp [hl] at h
    | some cs =>
      simp only [hl] at h
      cases hb : Nat.blt d np
      · simp only [hb, cond_false] at h
        have hd : np ≤ d := by
          have : ¬ d < np := by rw [← Nat.blt_eq, hb]; simp
          omega
        cases hw : (Nat.beq off 0 && Nat.beq (countR d all) 1)
        · simp [hw] at h
        · simp only [hw, cond_true, Option.some.injEq] at h
          subst h
          simp only [Bool.and_eq_true, Nat.beq_eq] at hw
          obtain ⟨rfl, h3⟩ := hw
          exact .ptr d cs hl hd h3
      · simp [hb] at h
  case fn f l =>
    cases l with
    | nil => simp only [toRet, Option.some.injEq] at h; subst h; exact .val _ rfl (fun d => by simp [names1]) ⟨by simp, by simp⟩
    | cons c l => simp [toRet] at h
  all_goals (simp only [toRet] at h; first | (cases h; done) | (simp only [Option.some.injEq] at h; subst h; exact .val _ rfl (fun d => by simp [names1]) ⟨by simp, by simp⟩))

theorem toRets_of {np : Nat} {l : List (Nat × List AV)} {all : List AV} : ∀ {xs vs : List AV}, toRets np l all xs = some vs → xs.length = vs.length ∧ ∀ j (h1 : j < xs.length) (h2 : j < vs.length), RetOf np l all xs[j] vs[j]
  | [], vs, h => by simp only [toRets, Option.some.injEq] at h; subst h; exact ⟨rfl, fun j h => by simp at h⟩
  | x :: r, vs, h => by
    simp only [toRets] at h
    cases hx : toRet np l all x with
    | none => simp [hx] at h
    | some v =>
      cases hr : toRets np l all r with
      | none => simp [hx, hr] at h
      | some us =>
        simp only [hx, hr, Option.some.injEq] at h
        subst h
        obtain ⟨i1, i2⟩ := toRets_of hr
        refine ⟨by simp [i1], fun j h1 h2 => ?_⟩
        cases j with
        | zero => exact toRet_of hx
        | succ j => exact i2 j (by simpa using h1) (by simpa using h2)

end
end Zab
