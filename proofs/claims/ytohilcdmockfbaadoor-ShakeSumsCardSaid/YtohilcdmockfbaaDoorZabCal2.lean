/- Calls: the callee's begin. No statement of the program stands here. -/
import Derived.Test.YtohilcdmockfbaaDoorZabCall
namespace Zab
open Go
set_option linter.unusedSimpArgs false
set_option linter.unusedVariables false

section
variable {C : Ctx} {A K : Nat → Nat} {S : St} {a : Act} {w : World}

/-- A view of a row, by value. -/
theorem view_sound (R : Rel C A K S a w) {d off n sz : Nat} {cs : List AV} (hl : look S.l d = some cs) {cv : Value} (hv : VRep C.E C.np w (Still C A K S.l w) A K (.rs d off n sz) cv) (hle : off + n * sz ≤ cs.length)
    {N' : Nat → Prop} (hS : ∀ b, Still C A K S.l w b → N' b) (hN : 0 < K d → N' (A d)) : FRep C.E w N' (.sl ((cs.drop off).take (n * sz)) n) cv := by
  obtain ⟨base, c, rfl, hnp, hn, hk, hb⟩ := vrep_rs hv
  have hrow := R.row d cs hl
  by_cases hk0 : 0 < K d
  · obtain ⟨cc, e, h1, h2, h3⟩ := hrow.list hk0
    have hr := (h3.drop off).take (n * sz)
    have hlen := hrow.le
    refine .sl _ n base c (fun j => cc.getD (off + j) undef) hn (.inr ⟨A d, off, hb hk0, hN hk0, fun j hj => ?_⟩) fun j hj => ?_
    · simp only [List.length_take, List.length_drop] at hj
      rw [cell_of h1]
      simp [show off + j < cc.length by omega]
    · simp only [List.length_take, List.length_drop] at hj
      have hj2 : j < (((cc.take cs.length).drop off).take (n * sz)).length := by simp; omega
      have := (hr.2 j (by simp; omega) hj2).mono hS (fun _ _ => rfl)
      simp only [List.getElem_take, List.getElem_drop] at this ⊢
      simpa [show off + j < cc.length by omega] using this
  · have : cs = [] := List.length_eq_zero_iff.1 (by have := hrow.le; omega)
    subst this
    refine .sl _ n base c (fun _ => undef) hn (.inl (by simp)) fun j hj => by simp at hj

theorem arg_sound (R : Rel C A K S a w) {x v : AV} {cv : Value} (hv : VRep C.E C.np w (Still C A K S.l w) A K x cv) (h : toArg S.l x = some v)
    {N' : Nat → Prop} (hS : ∀ b, Still C A K S.l w b → N' b) (hN : ∀ d o n sz, x = .rs d o n sz → Live S.l K d → N' (A d)) (np' : Nat) (A' K' : Nat → Nat) :
    V1 C.E np' w N' A' K' v cv ∧ (∀ cs, v ≠ .op cs) ∧ (∀ d, ¬ namesV d v) := by
  have flat : ∀ {y : AV}, VRep C.E C.np w (Still C A K S.l w) A K y cv → y.flat = true → V1 C.E np' w N' A' K' y cv ∧ (∀ cs, y ≠ .op cs) ∧ (∀ d, ¬ namesV d y) := fun {y} hy hf => by
    refine ⟨.flat ((vrep_flat hy hf).mono hS (fun _ _ => rfl)), fun cs e => ?_, fun d => ?_⟩
    · subst e; cases hf
    · cases y <;> first | (cases hf; done) | (simp [namesV, names1])
  cases x
  case rs d off n sz =>
    simp only [toArg] at h
    cases hl : look S.l d with
    | none => simp [hl] at h
    | some cs =>
      simp only [hl] at h
      cases hb : Nat.ble (off + n * sz) cs.length
      · simp [hb] at h
      · simp only [hb, cond_true, Option.some.injEq] at h
        subst h
        refine ⟨.flat (view_sound R hl hv (Nat.le_of_ble_eq_true hb) hS fun hk => hN d off n sz rfl ⟨by rw [hl]; simp, hk⟩), by simp, by simp [namesV, names1]⟩
  case ag cs =>
    simp only [toArg, Option.some.injEq] at h
    subst h
    obtain ⟨l, rfl, hr⟩ := vrep_agL hv
    exact ⟨.ag cs l hr.1 (hr.mono hS (fun _ _ => rfl)).2, by simp, by simp [namesV, names1]⟩
  case el cs o =>
    simp only [toArg, Option.some.injEq] at h
    subst h
    obtain ⟨blk, off, f, rfl, hN0, hc, h1⟩ := vrep_el hv
    exact ⟨.el cs o blk off f (hS _ hN0) hc (fun j hj => (h1 j hj).mono hS (fun _ _ => rfl)), by simp, by simp [namesV, names1]⟩
  case fn f l =>
    cases l with
    | nil =>
      simp only [toArg, Option.some.injEq] at h
      subst h
      obtain ⟨vs, rfl, hl, _⟩ := vrep_fn hv
      have : vs = [] := by cases vs <;> simp_all
      subst this
      exact ⟨.fn f, by simp, by simp [namesV]⟩
    | cons c l => simp [toArg] at h
  all_goals (simp only [toArg] at h; first | (cases h; done) | (simp only [Option.some.injEq] at h; subst h; exact flat hv rfl))

theorem toArg_op {l : List (Nat × List AV)} {x : AV} {cs : List AV} (h : toArg l x = some (.op cs)) : False := by
  cases x
  case rs d off n sz =>
    simp only [toArg] at h
    cases hl : look l d with
    | none => simp [hl] at h
    | some c =>
      simp only [hl] at h
      cases hb : Nat.ble (off + n * sz) c.length <;> simp [hb] at h
  case fn f l => cases l <;> simp [toArg] at h
  all_goals simp [toArg] at h

/-- The callee's names of what it is lent. -/
def calA (A : Nat → Nat) (as : List AV) (j : Nat) : Nat := match as[j]? with | some (.rf d _) => A d | _ => 0

theorem calA_of {A : Nat → Nat} {as : List AV} {j : Nat} (h : j < as.length) {d o : Nat} (hd : as[j] = .rf d o) : calA A as j = A d := by
  unfold calA; rw [List.getElem?_eq_getElem h, hd]

def calM (A K : Nat → Nat) (ds : List Nat) (b : Nat) : Prop := ∃ d, d ∈ ds ∧ 0 < K d ∧ A d = b
def calX (C : Ctx) (A K : Nat → Nat) (l : List (Nat × List AV)) (as : List AV) (ds : List Nat) (b : Nat) : Prop :=
  C.X b ∨ (anyRs as = false ∧ ∃ d, Live l K d ∧ d ∉ ds ∧ A d = b)

theorem enter_rel (R : Rel C A K S a w) {as vs : List AV} {ds : List Nat} {cvals : List Value} (hlen : as.length = cvals.length) (hvals : ∀ j (h1 : j < as.length) (h2 : j < cvals.length), VRep C.E C.np w (Still C A K S.l w) A K as[j] cvals[j])
    (hl : lends S.l as = some (vs, ds)) (hs : seesAny ds as = false) :
    Rel ⟨C.E, w, calM A K ds, calX C A K S.l as ds, vs.length, cvals.toArray.size, calA A as, calA K as⟩ (calA A as) (calA K as) ⟨enterS 0 vs, enterL 0 vs⟩ ⟨cvals.toArray, []⟩ w := by
  obtain ⟨e1, e2, e3, e4, e5⟩ := lends_of hl
  -- which row is lent
  have lent : ∀ j cs, look (enterL 0 vs) j = some cs → ∃ (h : j < as.length) (d : Nat), as[j] = .rf d 0 ∧ look S.l d = some cs ∧ d ∈ ds := by
    intro j cs h
    rw [look_enterL, if_pos (Nat.zero_le _), Nat.sub_zero] at h
    split at h
    · rename_i cs' hv
      cases h
      obtain ⟨hj, hvj⟩ := List.getElem?_eq_some_iff.1 hv
      have hj' : j < as.length := by rw [← e1]; exact hj
      have := e2 j hj' hj
      rw [hvj] at this
      generalize hx : as[j] = x at this
      cases this with
      | lent d _ h => exact ⟨hj', d, hx, h, e4 j hj' d hx⟩
      | val _ _ h => exact (toArg_op h).elim
    · cases h
  have liveL : ∀ j, Live (enterL 0 vs) (calA K as) j → ∃ (h : j < as.length) (d : Nat) (cs : List AV), as[j] = .rf d 0 ∧ look S.l d = some cs ∧ d ∈ ds ∧ Live S.l K d ∧ calA A as j = A d ∧ look (enterL 0 vs) j = some cs := by
    intro j hj
    cases hq : look (enterL 0 vs) j with
    | none => exact absurd hq hj.1
    | some cs =>
      obtain ⟨h, d, h1, h2, h3⟩ := lent j cs hq
      exact ⟨h, d, cs, h1, h2, h3, ⟨by rw [h2]; simp, by have := hj.2; rwa [calA_of h h1] at this⟩, calA_of h h1, rfl⟩
  -- what stays still
  have still : ∀ b, Still C A K S.l w b → Still ⟨C.E, w, calM A K ds, calX C A K S.l as ds, vs.length, cvals.toArray.size, calA A as, calA K as⟩ (calA A as) (calA K as) (enterL 0 vs) w b := by
    intro b hb
    refine ⟨hb.1, ?_, fun j hj => ?_⟩
    · rintro (hx | ⟨_, d, hd, _, he⟩)
      · exact hb.2.1 hx
      · exact hb.2.2 d hd he
    · obtain ⟨h, d, cs, h1, h2, h3, h4, h5, _⟩ := liveL j hj
      rw [h5]; exact hb.2.2 d h4
  have seen : ∀ j (h : j < as.length) d o n sz, as[j] = .rs d o n sz → Live S.l K d → Still ⟨C.E, w, calM A K ds, calX C A K S.l as ds, vs.length, cvals.toArray.size, calA A as, calA K as⟩ (calA A as) (calA K as) (enterL 0 vs) w (A d) := by
    intro j h d o n sz hx hd
    have hnot := seesAny_of hs h hx
    refine ⟨Live.lt R hd, ?_, fun i hi => ?_⟩
    · rintro (hx' | ⟨hf, _⟩)
      · exact (R.own d hd).2.1 hx'
      · rw [anyRs_of h hx] at hf; cases hf
    · obtain ⟨h', d', cs, h1, h2, h3, h4, h5, _⟩ := liveL i hi
      rw [h5]
      intro e
      have := R.inj d' d h4 hd e
      subst this; exact hnot h3
  constructor
  case slot =>
    intro i
    show VRep C.E vs.length w _ _ _ (get (enterS 0 vs) i) (cvals.toArray.getD i undef)
    rw [get_enterS, if_pos (Nat.zero_le _), Nat.sub_zero]
    cases hv : vs[i]? with
    | none => exact .one (.gone _)
    | some v =>
      obtain ⟨hi, hvi⟩ := List.getElem?_eq_some_iff.1 hv
      have hi' : i < as.length := by rw [← e1]; exact hi
      have hic : i < cvals.length := by rw [← hlen]; exact hi'
      have hcv : cvals.toArray.getD i undef = cvals[i] := by simp [hic]
      have hval := hvals i hi' hic
      have harg := e2 i hi' hi
      rw [hvi] at harg
      generalize hx : as[i] = x at harg hval
      cases harg with
      | lent d cs h =>
        have : cvals[i] = .pointer (some ⟨A d, 0, none⟩) := vrep_rf hval
        rw [hcv]
        exact VRep.rfv (by rw [this, calA_of hi' hx])
      | val _ _ h =>
        obtain ⟨h1, h2, h3⟩ := arg_sound R hval h still (fun d o n sz e hd => seen i hi' d o n sz (by rw [hx, e]) hd) vs.length (calA A as) (calA K as)
        rw [hcv]
        have : slotOf i v = v := by cases v <;> first | rfl | exact absurd rfl (h2 _)
        show VRep _ _ _ _ _ _ (slotOf i v) _
        rw [this]
        exact .one h1
  case row =>
    intro j cs hj
    obtain ⟨h, d, h1, h2, h3⟩ := lent j cs hj
    rw [calA_of h h1, calA_of h h1]
    exact (R.row d cs h2).mono still (fun _ _ => rfl) (fun _ => rfl)
  case inj =>
    intro i j hi hj he
    obtain ⟨h, d, cs, h1, h2, h3, h4, h5, _⟩ := liveL i hi
    obtain ⟨h', d', cs', h1', h2', h3', h4', h5', _⟩ := liveL j hj
    rw [h5, h5'] at he
    have := R.inj d d' h4 h4' he
    subst this
    exact e5 i j h h' d h1 h1'
  case own =>
    intro j hj
    obtain ⟨h, d, cs, h1, h2, h3, h4, h5, _⟩ := liveL j hj
    rw [h5]
    refine ⟨.inr ⟨d, h3, h4.2, rfl⟩, ?_, (R.own d h4).2.2⟩
    rintro (hx | ⟨_, e, he, hne, hh⟩)
    · exact (R.own d h4).2.1 hx
    · have := R.inj e d he h4 hh
      subst this; exact hne h3
  case arg => exact fun _ _ _ => ⟨rfl, rfl⟩
  case glob => exact R.glob
  case frame => exact fun _ _ _ => rfl
  case size => exact Nat.le_refl _
  case os => rfl
  case tape => rfl
  case output => rfl
  case defers => rfl
  case tsz => rfl
  case xlt =>
    rintro b (hx | ⟨_, d, hd, _, rfl⟩)
    · exact Nat.lt_of_lt_of_le (R.xlt b hx) R.size
    · exact Live.lt R hd

end
end Zab
