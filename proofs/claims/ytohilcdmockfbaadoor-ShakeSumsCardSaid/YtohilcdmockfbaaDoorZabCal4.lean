/- Calls: results. No statement of the program stands here. -/
import Derived.Test.YtohilcdmockfbaaDoorZabCal3
namespace Zab
open Go
set_option linter.unusedSimpArgs false
set_option linter.unusedVariables false

section
variable {C : Ctx} {A K : Nat → Nat} {S : St} {a : Act} {w : World}
variable {as vs : List AV} {ds : List Nat} {nt : Nat} {A' K' : Nat → Nat} {S' : St} {a' : Act} {w' : World} {lent : List (List AV)} {l' : List (Nat × List AV)}

/-- One part of a result, by value. -/
theorem Back.comp (B : Back C A K S a w as vs ds nt A' K' S' a' w' lent l') {all : List AV} {raw v u : AV} {cv : Value} (hr : RetOf vs.length S'.l all raw v)
    (hv : VRep C.E vs.length w' (Still (calC C A K S.l w as ds vs.length nt) A' K' S'.l w') A' K' raw cv) (hu : fromRet1 v = some u) {N1 : Nat → Prop}
    (hT : anyRs as = false → ∀ b, Still (calC C A K S.l w as ds vs.length nt) A' K' S'.l w' b → N1 b) (hF : ∀ d, vs.length ≤ d → names1 d raw → Live S'.l K' d → N1 (A' d)) (hb : anyRs as = true → hasSl2 v = false) (np1 : Nat) (A1 K1 : Nat → Nat) :
    V1 C.E np1 w' N1 A1 K1 u cv := by
  have conv : ∀ {x : AV} {y : Value}, (anyRs as = true → hasSl1 x = false) → FRep C.E w' (Still (calC C A K S.l w as ds vs.length nt) A' K' S'.l w') x y → FRep C.E w' N1 x y := by
    intro x y hx h
    cases hany : anyRs as
    · exact h.mono (hT hany) (fun _ _ => rfl)
    · exact h.bare (hx hany)
  cases hr with
  | own d n sz cs h hd hl h1 =>
    simp only [fromRet1, Option.some.injEq] at hu
    subst hu
    obtain ⟨base, c, rfl, _, hn, hk, hb0⟩ := vrep_rs hv
    have hrow := B.R'.row d cs h
    by_cases hk0 : 0 < K' d
    · obtain ⟨cc, e, p1, p2, p3⟩ := hrow.list hk0
      have hlive : Live S'.l K' d := ⟨by rw [h]; simp, hk0⟩
      refine .flat (.sl cs n base c (fun j => (cc.take cs.length).getD j undef) hn (.inr ⟨A' d, 0, hb0 hk0, hF d hd rfl hlive, fun j hj => ?_⟩) fun j hj => ?_)
      · have hj' : j < (cc.take cs.length).length := by rw [← p3.1]; exact hj
        simp only [List.length_take] at hj'
        rw [cell_of p1]
        simp [hj, show j < cc.length by omega]
      · have hj' : j < (cc.take cs.length).length := by rw [← p3.1]; exact hj
        have := conv (fun hany => hasSlL_of (by simpa [hasSl2] using hb hany) j hj) (p3.2 j hj hj')
        simpa [List.getElem?_eq_getElem hj'] using this
    · have : cs = [] := List.length_eq_zero_iff.1 (by have := hrow.le; omega)
      subst this
      exact .flat (.sl [] n base c (fun _ => undef) hn (.inl rfl) fun j hj => by simp at hj)
  | view d off n sz cs h hd hl hw =>
    simp only [fromRet1, Option.some.injEq] at hu
    subst hu
    have hany : anyRs as = false := by
      cases hany : anyRs as
      · rfl
      · have := hb hany; simp [hasSl2, hasSl1] at this
    refine .flat (view_sound B.R' h hv hl (hT hany) fun hk => hF d hd rfl ⟨by rw [h]; simp, hk⟩)
  | ptr d cs h hd h1 =>
    cases cs with
    | nil => simp [fromRet1] at hu
    | cons c cs =>
      simp only [fromRet1, Option.some.injEq] at hu
      subst hu
      have := vrep_rf hv
      subst this
      have hrow := B.R'.row d _ h
      have hk0 : 0 < K' d := by have := hrow.le; simp only [List.length_cons] at this; omega
      obtain ⟨cc, e, p1, p2, p3⟩ := hrow.list hk0
      have hlive : Live S'.l K' d := ⟨by rw [h]; simp, hk0⟩
      have := V1.el (E := C.E) (np := np1) (w := w') (N := N1) (A := A1) (K := K1) (c :: cs) 0 (A' d) 0 (fun j => (cc.take (c :: cs).length).getD j undef) (hF d hd rfl hlive) (fun j hj => by
        have hj' : j < (cc.take (c :: cs).length).length := by rw [← p3.1]; exact hj
        have hj2 := hj'
        simp only [List.length_take] at hj'
        rw [cell_of p1]
        rw [show (0 + j) = j by omega]
        simp only [List.getD_eq_getElem?_getD, List.getElem?_eq_getElem hj2, Option.getD_some, List.getElem_take]
        simp [show j < cc.length by omega]) (fun j hj => by
        have hj' : j < (cc.take (c :: cs).length).length := by rw [← p3.1]; exact hj
        have := conv (fun hany => hasSlL_of (by simpa [hasSl2] using hb hany) j hj) (p3.2 j hj hj')
        simp only [List.getD_eq_getElem?_getD, List.getElem?_eq_getElem hj', Option.getD_some]
        exact this)
      exact this
  | val _ hx hn ho =>
    have hu' : u = raw := by
      cases raw <;> simp_all [fromRet1, plain]
    subst hu'
    have h1 := hv.ofPlain hx
    cases h1 with
    | flat h => exact .flat (conv (fun hany => by have hs := hb hany; cases h <;> first | rfl | (simp [hasSl2, hasSl1] at hs)) h)
    | ag cells l hl h =>
      cases hany : anyRs as
      · exact .ag cells l hl fun j p q => (h j p q).mono (hT hany) (fun _ _ => rfl)
      · have hs := hb hany; simp [hasSl2, hasSl1] at hs
    | rf d o => exact absurd rfl (hn d)
    | rs d o n sz => exact absurd rfl (hn d)
    | el cells j blk off f hN hc h =>
      cases hany : anyRs as
      · exact .el cells j blk off f (hT hany _ hN) hc fun j p => (h j p).mono (hT hany) (fun _ _ => rfl)
      · have hs := hb hany; simp [hasSl2, hasSl1] at hs
    | gl g => exact .gl g
    | fn f => exact .fn f
    | un => exact .un
    | gone => exact .gone _

theorem fromRetL_of : ∀ {l us : List AV}, fromRetL l = some us → l.length = us.length ∧ ∀ j (h1 : j < l.length) (h2 : j < us.length), fromRet1 l[j] = some us[j]
  | [], us, h => by simp only [fromRetL, Option.some.injEq] at h; subst h; exact ⟨rfl, fun j h => by simp at h⟩
  | x :: r, us, h => by
    simp only [fromRetL] at h
    cases hx : fromRet1 x with
    | none => simp [hx] at h
    | some v =>
      cases hr : fromRetL r with
      | none => simp [hx, hr] at h
      | some vs =>
        simp only [hx, hr, Option.some.injEq] at h
        subst h
        obtain ⟨i1, i2⟩ := fromRetL_of hr
        refine ⟨by simp [i1], fun j h1 h2 => ?_⟩
        cases j with
        | zero => exact hx
        | succ j => exact i2 j (by simpa using h1) (by simpa using h2)

theorem hasSl2L_of : ∀ {l : List AV}, hasSl2L l = false → ∀ j (h : j < l.length), hasSl2 l[j] = false
  | [], _, j, h => by simp at h
  | x :: r, h, j, hj => by
    simp only [hasSl2L, Bool.or_eq_false_iff] at h
    cases j with
    | zero => exact h.1
    | succ j => exact hasSl2L_of h.2 j (by simpa using hj)

theorem one_cases (rs : List AV) : (∃ x, rs = [x] ∧ one rs = x) ∨ (rs.length ≠ 1 ∧ one rs = .tp rs) := by
  match rs with
  | [] => right; exact ⟨by simp, rfl⟩
  | [x] => left; exact ⟨x, rfl, rfl⟩
  | x :: y :: r => right; exact ⟨by simp, rfl⟩

theorem oneV_many {cvs : List Value} (h : cvs.length ≠ 1) : oneV cvs = .tuple cvs.toArray := by
  match cvs, h with
  | [], _ => rfl
  | [x], h => simp at h
  | x :: y :: r, _ => rfl

theorem RetOf.notTp {np : Nat} {l : List (Nat × List AV)} {all : List AV} {raw v : AV} (h : RetOf np l all raw v) : ∀ l, v ≠ .tp l := by
  intro l e
  cases h with
  | val _ hx _ _ => subst e; cases hx
  | _ => cases e

/-- The blocks of the callee's rows, for the caller. -/
theorem Back.freshStill (B : Back C A K S a w as vs ds nt A' K' S' a' w' lent l') {d : Nat} (hd : Live S'.l K' d) (hnp : vs.length ≤ d) : Still C A K l' w' (A' d) := by
  obtain ⟨h1, h2⟩ := B.fresh hd hnp
  exact ⟨h2, fun hx => by have := B.R.xlt _ hx; have := B.R.size; omega, fun e he => by have := Live.lt B.R (B.live.1 he); omega⟩

/-- A whole result, by value. -/
theorem Back.byValue (B : Back C A K S a w as vs ds nt A' K' S' a' w' lent l') {raws rs : List AV} {cvs : List Value} (hlen : raws.length = cvs.length)
    (hreps : ∀ j (h1 : j < raws.length) (h2 : j < cvs.length), VRep C.E vs.length w' (Still (calC C A K S.l w as ds vs.length nt) A' K' S'.l w') A' K' raws[j] cvs[j])
    (hrs : toRets vs.length S'.l raws raws = some rs) (hb : anyRs as = true → hasSl (one rs) = false) {v : AV} (hv : fromRet (one rs) = some v) :
    VRep C.E C.np w' (Still C A K l' w') A K v (oneV cvs) := by
  obtain ⟨t1, t2⟩ := toRets_of hrs
  have hT : anyRs as = false → ∀ b, Still (calC C A K S.l w as ds vs.length nt) A' K' S'.l w' b → Still C A K l' w' b := fun hany b hb => B.theirs hany hb
  rcases one_cases rs with ⟨x, rfl, h1⟩ | ⟨hne, h1⟩
  · rw [h1] at hv hb
    simp only [List.length_singleton] at t1
    match raws, cvs, t1, hlen, hreps, t2 with
    | [raw], [cv], _, _, hreps, t2 =>
      have hr := t2 0 (by simp) (by simp)
      have hp := hreps 0 (by simp) (by simp)
      simp only [List.getElem_cons_zero] at hr hp
      have hnt := hr.notTp
      have hv' : fromRet1 x = some v := by cases x <;> first | exact hv | exact absurd rfl (hnt _)
      have hb' : anyRs as = true → hasSl2 x = false := fun h => by have := hb h; cases x <;> first | exact this | exact absurd rfl (hnt _)
      exact .one (B.comp hr hp hv' hT (fun d hd _ hl => B.freshStill hl hd) hb' _ _ _)
  · rw [h1] at hv hb
    rw [oneV_many (by omega)]
    simp only [fromRet, Option.map_eq_some_iff] at hv
    obtain ⟨us, hus, rfl⟩ := hv
    obtain ⟨f1, f2⟩ := fromRetL_of hus
    refine .tp us cvs (by omega) fun j p q => ?_
    exact B.comp (t2 j (by omega) (by omega)) (hreps j (by omega) q) (f2 j (by omega) p) hT (fun d hd _ hl => B.freshStill hl hd) (fun h => hasSl2L_of (by simpa [hasSl] using hb h) j (by omega)) _ _ _

/-- One of the callee's rows becomes the caller's. -/
theorem Back.take (B : Back C A K S a w as vs ds nt A' K' S' a' w' lent l') {D d : Nat} {cs : List AV} (hD : C.np ≤ D) (hl : look S'.l d = some cs) (hd : vs.length ≤ d) (hbare : anyRs as = true → hasSlL cs = false) :
    Rel C (upd A D (A' d)) (upd K D (K' d)) { s := mapS (kill1 D) S.s, l := put (del l' D) D cs } a w' ∧
    (∀ e, vs.length ≤ e → e ≠ d → Live S'.l K' e → Still C (upd A D (A' d)) (upd K D (K' d)) (put (del l' D) D cs) w' (A' e)) ∧
    (anyRs as = false → ∀ b, Still (calC C A K S.l w as ds vs.length nt) A' K' S'.l w' b → Still C (upd A D (A' d)) (upd K D (K' d)) (put (del l' D) D cs) w' b) := by
  have hrow := B.R'.row d cs hl
  have hrow' : Row C.E w' (backN C A K S.l w as ds vs.length nt A' K' S'.l l' w') (A' d) (K' d) cs := by
    cases hany : anyRs as
    · exact hrow.mono (fun b hb => .inr ⟨hb, B.theirs hany hb⟩) (fun _ _ => rfl) (fun _ => rfl)
    · exact ⟨hrow.le, fun hk => by
        obtain ⟨cc, e, p1, p2, p3⟩ := hrow.row hk
        exact ⟨cc, e, p1, p2, fun j hj => let ⟨v, q1, q2⟩ := p3 j hj; ⟨v, q1, q2.bare (hasSlL_of (hbare hany) j hj)⟩⟩⟩
  have live : 0 < K' d → Live S'.l K' d := fun hk => ⟨by rw [hl]; simp, hk⟩
  have R2 := (B.relN.reroot (d := D) (b := A' d) (k := K' d) (cs := cs) hD (fun hk => by
    obtain ⟨f1, f2⟩ := B.fresh (live hk) hd
    exact ⟨.inl (Nat.le_trans B.R.size f1), (B.freshStill (live hk) hd).2.1, (B.R'.own d (live hk)).2.2⟩) (fun hk b' hb' e => by
    subst e
    obtain ⟨f1, f2⟩ := B.fresh (live hk) hd
    rcases hb' with hb' | ⟨hb', _⟩
    · have := hb'.1; omega
    · exact hb'.2.2 d (live hk) rfl) (fun hk e _ he h => by
    have := Live.lt B.R (B.live.1 he)
    obtain ⟨f1, f2⟩ := B.fresh (live hk) hd
    omega) hrow').rel
  refine ⟨R2, fun e he hne hle => ?_, fun hany b hb => ?_⟩
  · have hs := B.freshStill hle he
    refine ⟨hs.1, hs.2.1, fun f hf => ?_⟩
    rcases live_upd.1 hf with ⟨rfl, hk⟩ | ⟨hnf, hlf⟩
    · rw [upd_same]; exact fun h => hne (B.R'.inj d e (live hk) hle h).symm
    · rw [upd_other _ _ _ hnf]; exact hs.2.2 f hlf
  · have hs := B.theirs hany hb
    refine ⟨hs.1, hs.2.1, fun f hf => ?_⟩
    rcases live_upd.1 hf with ⟨rfl, hk⟩ | ⟨hnf, hlf⟩
    · rw [upd_same]; exact hb.2.2 d (live hk)
    · rw [upd_other _ _ _ hnf]; exact hs.2.2 f hlf

/-- A RESULT, RECEIVED. -/
theorem Back.recv (B : Back C A K S a w as vs ds nt A' K' S' a' w' lent l') {raws rs : List AV} {cvs : List Value} (hlen : raws.length = cvs.length)
    (hreps : ∀ j (h1 : j < raws.length) (h2 : j < cvs.length), VRep C.E vs.length w' (Still (calC C A K S.l w as ds vs.length nt) A' K' S'.l w') A' K' raws[j] cvs[j])
    (hrs : toRets vs.length S'.l raws raws = some rs) (hb : anyRs as = true → hasSl (one rs) = false) {d : Nat} {own : List (Nat × Nat)} {S2 : St} {v : AV} (hd : C.np ≤ d) (h : Zab.recv { S with l := l' } d own (one rs) = some (S2, v)) :
    ∃ A2 K2, Rel C A2 K2 S2 a w' ∧ VRep C.E C.np w' (Still C A2 K2 S2.l w') A2 K2 v (oneV cvs) := by
  have plainCase : ∀ {u : AV}, fromRet (one rs) = some u → S2 = { S with l := l' } → v = u → ∃ A2 K2, Rel C A2 K2 S2 a w' ∧ VRep C.E C.np w' (Still C A2 K2 S2.l w') A2 K2 v (oneV cvs) := by
    intro u hu e1 e2
    subst e1; subst e2
    exact ⟨A, K, B.rel, B.byValue hlen hreps hrs hb hu⟩
  obtain ⟨t1, t2⟩ := toRets_of hrs
  -- a part of a tuple
  have tuple : ∀ {j sz D : Nat} {us : List AV} {u cv0 : AV} {dd : Nat} {cs : List AV} (hD : C.np ≤ D) (hj : j < rs.length), one rs = .tp rs → rs.length ≠ 1 → look S'.l dd = some cs → vs.length ≤ dd → (anyRs as = true → hasSlL cs = false) →
      countR dd raws = 1 → (∀ h : j < raws.length, names1 dd raws[j]) → (∀ h : j < cvs.length, ∀ N, V1 C.E C.np w' N (upd A D (A' dd)) (upd K D (K' dd)) u cvs[j]) → fromRet1 u = some u → fromRetL (rs.set j u) = some us →
      Rel C (upd A D (A' dd)) (upd K D (K' dd)) { s := mapS (kill1 D) S.s, l := put (del l' D) D cs } a w' ∧ VRep C.E C.np w' (Still C (upd A D (A' dd)) (upd K D (K' dd)) (put (del l' D) D cs) w') (upd A D (A' dd)) (upd K D (K' dd)) (.tp us) (oneV cvs) := by
    intro j sz D us u cv0 dd cs hD hj hone hne hl hdd hbare hcount hname hu huu hus
    obtain ⟨T1, T2, T3⟩ := B.take hD hl hdd hbare
    refine ⟨T1, ?_⟩
    rw [oneV_many (by omega)]
    obtain ⟨f1, f2⟩ := fromRetL_of hus
    simp only [List.length_set] at f1
    refine .tp us cvs (by omega) fun i p q => ?_
    have hf := f2 i (by simp; omega) p
    by_cases hij : i = j
    · subst hij
      simp only [List.getElem_set_self] at hf
      rw [huu] at hf
      cases hf
      exact hu q _
    · simp only [List.getElem_set_ne (fun e => hij e.symm)] at hf
      refine B.comp (t2 i (by omega) (by omega)) (hreps i (by omega) q) hf T3 (fun e he hn hle => T2 e he (fun e' => ?_) hle) (fun hany => hasSl2L_of (by have := hb hany; rw [hone] at this; simpa [hasSl] using this) i (by omega)) _ _ _
      subst e'
      exact hij (countR_of hcount i j (by omega) (by omega) hn (hname (by omega)))
  unfold Zab.recv at h
  split at h
  · -- a tuple, one part to be owned
    rename_i j sz own' l hone
    have hll : rs = l := by
      rcases one_cases rs with ⟨x, rfl, h1⟩ | ⟨_, h1⟩
      · have := (t2 0 (by simp at t1 ⊢; omega) (by simp)).notTp
        rw [h1] at hone
        exact absurd hone (this _)
      · rw [h1] at hone; cases hone; rfl
    subst hll
    have hne : rs.length ≠ 1 := by
      rcases one_cases rs with ⟨x, rfl, h1⟩ | ⟨h0, h1⟩
      · have := (t2 0 (by simp at t1 ⊢; omega) (by simp)).notTp
        rw [h1] at hone
        exact absurd hone (this _)
      · exact h0
    have hslj : ∀ (hjl : j < rs.length), anyRs as = true → hasSl2 rs[j] = false := fun hjl hany => hasSl2L_of (by have := hb hany; rw [hone] at this; simpa [hasSl] using this) j hjl
    split at h
    · rename_i cs n sz hj
      obtain ⟨hjl, hjv⟩ := List.getElem?_eq_some_iff.1 hj
      split at h <;> first | (cases h; done) | skip
      rename_i us hus
      cases h
      have hret := t2 j (by omega) hjl
      rw [hjv] at hret
      generalize hraw : raws[j]'(by omega) = raw at hret
      cases hret with
      | own dd _ _ _ hl hdd hcl hcount =>
        have hrep := hreps j (by omega) (by omega)
        rw [hraw] at hrep
        obtain ⟨base, c, hcv, _, hn, hk, hb0⟩ := vrep_rs hrep
        refine ⟨_, _, tuple (sz := sz) (cv0 := .gone) (by omega) hjl hone hne hl hdd (fun hany => by
          have := hslj hjl hany
          rw [hjv] at this; simpa [hasSl2] using this) hcount (fun _ => by rw [hraw]; rfl) (fun hq' N => ?_) rfl hus⟩
        rw [hcv]
        exact .rs _ 0 n sz base c (by omega) hn (by rw [upd_same]; exact hk) (fun hk0 => by rw [upd_same] at hk0 ⊢; exact hb0 hk0)
      | val x hx hn ho => exact absurd rfl (ho.1 _ _ _)
    · rename_i cs hj
      obtain ⟨hjl, hjv⟩ := List.getElem?_eq_some_iff.1 hj
      split at h <;> first | (cases h; done) | skip
      rename_i us hus
      cases h
      have hret := t2 j (by omega) hjl
      rw [hjv] at hret
      generalize hraw : raws[j]'(by omega) = raw at hret
      cases hret with
      | ptr dd _ hl hdd hcount =>
        have hrep := hreps j (by omega) (by omega)
        rw [hraw] at hrep
        have hcv := vrep_rf hrep
        refine ⟨_, _, tuple (sz := 0) (cv0 := .gone) (by omega) hjl hone hne hl hdd (fun hany => by
          have := hslj hjl hany
          rw [hjv] at this; simpa [hasSl2] using this) hcount (fun _ => by rw [hraw]; rfl) (fun hq' N => ?_) rfl hus⟩
        rw [hcv]
        have := V1.rf (E := C.E) (np := C.np) (w := w') (N := N) (A := upd A (d + 1000 * (j + 1)) (A' dd)) (K := upd K (d + 1000 * (j + 1)) (K' dd)) (d + 1000 * (j + 1)) 0
        rwa [upd_same] at this
      | val x hx hn ho => exact absurd rfl (ho.2 _)
    · split at h <;> first | (cases h; done) | skip
      rename_i u hu
      cases h
      exact plainCase (by rw [hone]; exact hu) rfl rfl
  · -- a slice
    rename_i p own' cs n sz hone
    cases h
    rcases one_cases rs with ⟨x, rfl, h1⟩ | ⟨_, h1⟩
    · rw [h1] at hone
      subst hone
      simp only [List.length_singleton] at t1
      match raws, cvs, t1, hlen, hreps, t2 with
      | [raw], [cv], _, _, hreps, t2 =>
        have hr := t2 0 (by simp) (by simp)
        have hp := hreps 0 (by simp) (by simp)
        simp only [List.getElem_cons_zero] at hr hp
        cases hr with
        | own dd _ _ _ hl hdd hcl hcount =>
          obtain ⟨T1, _, _⟩ := B.take (D := d) hd hl hdd (fun hany => by have := hb hany; simpa [one, hasSl, hasSl2] using this)
          obtain ⟨base, c, hcv, _, hn, hk, hb0⟩ := vrep_rs hp
          refine ⟨_, _, T1, .one ?_⟩
          show V1 _ _ _ _ _ _ _ cv
          rw [hcv]
          exact .rs _ 0 n sz base c hd hn (by rw [upd_same]; exact hk) (fun hk0 => by rw [upd_same] at hk0 ⊢; exact hb0 hk0)
        | val x hx hn ho => exact absurd rfl (ho.1 _ _ _)
    · rw [h1] at hone; cases hone
  · -- a pointer
    rename_i p own' cs hone
    cases h
    rcases one_cases rs with ⟨x, rfl, h1⟩ | ⟨_, h1⟩
    · rw [h1] at hone
      subst hone
      simp only [List.length_singleton] at t1
      match raws, cvs, t1, hlen, hreps, t2 with
      | [raw], [cv], _, _, hreps, t2 =>
        have hr := t2 0 (by simp) (by simp)
        have hp := hreps 0 (by simp) (by simp)
        simp only [List.getElem_cons_zero] at hr hp
        cases hr with
        | ptr dd _ hl hdd hcount =>
          obtain ⟨T1, _, _⟩ := B.take (D := d) hd hl hdd (fun hany => by have := hb hany; simpa [one, hasSl, hasSl2] using this)
          have hcv := vrep_rf hp
          exact ⟨_, _, T1, VRep.rfv (by show cv = _; rw [upd_same]; exact hcv)⟩
        | val x hx hn ho => exact absurd rfl (ho.2 _)
    · rw [h1] at hone; cases hone
  · split at h <;> first | (cases h; done) | skip
    rename_i u hu
    cases h
    exact plainCase hu rfl rfl

end
end Zab
