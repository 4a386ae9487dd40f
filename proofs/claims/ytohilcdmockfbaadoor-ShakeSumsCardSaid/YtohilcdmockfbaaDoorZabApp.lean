/- append. No statement of the program stands here. -/
import Derived.Test.YtohilcdmockfbaaDoorZabRoot
import Derived.Deep.Upon
namespace Zab
open Go
set_option linter.unusedSimpArgs false
set_option linter.unusedVariables false

section
variable {C : Ctx} {A K : Nat → Nat} {S : St} {a : Act} {w : World} {o : Oper} {r : AV}

/-- What the second operand lists, in the model. -/
theorem src_sound (R : Rel C A K S a w) {P : Program} {tx e' : TypeId} (hk : P.underlying tx = some (.slice e')) {sz d m : Nat} {Y : AV} {vy : Value} {vs : List AV} (hy : VRep C.E C.np w (Still C A K S.l w) A K Y vy) (h : srcV S.l (sz + 1) d Y = some (vs, m)) :
    ∃ news : List Value, Src P (sz + 1) tx vy m news w ∧ RepL C.E w (Still C A K S.l w) vs news ∧ vs.length = m * (sz + 1) := by
  have hnone : ∀ base c, Src P (sz + 1) tx (.slice base 0 c) 0 [] w := by
    intro base c
    cases base with
    | none => exact Src.ofNil w hk c
    | some ad => exact Src.ofSlice w hk ad 0 c [] (by simp) (fun j u hu => by simp at hu) (fun u hu => by simp at hu)
  unfold srcV at h
  split at h
  · rename_i cs m'
    cases hb : Nat.beq cs.length (m' * (sz + 1))
    · simp [hb] at h
    · simp only [hb, cond_true, Option.some.injEq, Prod.mk.injEq] at h
      obtain ⟨rfl, rfl⟩ := h
      have hlen := Nat.eq_of_beq_eq_true hb
      obtain ⟨base, c, f, rfl, hn, h0, h1⟩ := vrep_sl hy
      rcases h0 with rfl | ⟨blk, off, rfl, hN, hc⟩
      · simp only [List.length_nil] at hlen
        have : m' = 0 := by rcases Nat.mul_eq_zero.1 hlen.symm with h | h <;> omega
        subst this
        exact ⟨[], hnone _ _, RepL.nil, by simp⟩
      · refine ⟨(List.range cs.length).map f, Src.ofSlice w hk ⟨blk, off, none⟩ m' c _ (by simpa using hlen) (fun j u hu => ?_) (fun u hu => ?_), ⟨by simp, fun j p q => by simpa using h1 j p⟩, hlen⟩
        · obtain ⟨hj, rfl⟩ := List.getElem?_eq_some_iff.1 hu
          simp only [List.length_map, List.length_range] at hj
          simpa [Addr.add_mid] using hc j hj
        · obtain ⟨j, hj, rfl⟩ := List.mem_map.1 hu
          exact (h1 j (by simpa using hj)).one
  · cases h
    obtain ⟨base, rfl⟩ := vrep_z hy
    exact ⟨[], hnone _ _, RepL.nil, by simp⟩
  · rename_i e off m' sz'
    cases hl : look S.l e with
    | none => simp [hl] at h
    | some cs =>
      simp only [hl] at h
      cases hb : (!Nat.beq e d && (Nat.beq (sz + 1) sz' && Nat.ble (off + m' * (sz + 1)) cs.length))
      · simp [hb] at h
      · simp only [hb, cond_true, Option.some.injEq, Prod.mk.injEq] at h
        obtain ⟨rfl, rfl⟩ := h
        simp only [Bool.and_eq_true, Bool.not_eq_true', Nat.beq_eq, Nat.ble_eq] at hb
        obtain ⟨_, rfl, hle⟩ := hb
        obtain ⟨base, c, rfl, _, hn, hk', hb0⟩ := vrep_rs hy
        have hrow := R.row e cs hl
        by_cases hK : 0 < K e
        · obtain ⟨cc, t, h1, h2, h3⟩ := hrow.list hK
          have := hb0 hK; subst this
          have hcs := hrow.le
          have hr := (h3.drop off).take (m' * (sz + 1))
          refine ⟨_, Src.ofSlice w hk ⟨A e, off, none⟩ m' c _ (by rw [← hr.1]; simp; omega) (fun j u hu => ?_) hr.one, hr, by simp; omega⟩
          obtain ⟨hj, rfl⟩ := List.getElem?_eq_some_iff.1 hu
          simp only [List.length_take, List.length_drop] at hj
          rw [Addr.add_mid, cell_of h1]
          simp only [List.getElem_take, List.getElem_drop]
          simp [show off + j < cc.length by omega]
        · have : cs = [] := List.length_eq_zero_iff.1 (by have := hrow.le; omega)
          subst this
          simp only [List.length_nil, Nat.le_zero_eq, Nat.add_eq_zero_iff] at hle
          have : m' = 0 := by rcases Nat.mul_eq_zero.1 hle.2 with h | h <;> omega
          subst this
          exact ⟨[], hnone _ _, by simpa using RepL.nil, by simp⟩
  · cases h

theorem slicecap_le {need cap : Nat} (h : cap < need) : Builtin.nextslicecap need cap ≤ 2 * need := by
  unfold Builtin.nextslicecap
  split
  · omega
  · split
    · omega
    · have key : ∀ n c, c ≤ 2 * need → Builtin.growBy need n c ≤ 2 * need ∨ Builtin.growBy need n c ≤ 2 * need := by
        intro n
        induction n with
        | zero => intro c hc; left; simpa [Builtin.growBy] using hc
        | succ n ih =>
          intro c hc
          simp only [Builtin.growBy]
          split
          · left; exact hc
          · exact ih _ (by omega)
      have := key 4 cap (by omega)
      omega

/-- append, as an operation. -/
theorem run_app {c : Call} {x y : Operand} {t u : TypeId} (ho : o.op = .call c) (hcal : c.callee = .builtin .append) (hargs : c.args.toList = [x, y]) (hty : c.argTypes.toList = [t, u]) {v : Value} {w' : World}
    (h : (Builtin.append_ #[t, u] o.type #[a.eval x, a.eval y]).run C.E.P w = .ok v w') : (execOp a.eval o).run C.E.P w = .ok (.value v) w' := by
  have e1 : c.args.map a.eval = #[a.eval x, a.eval y] := by rw [← Array.toArray_toList (xs := c.args), hargs]; simp
  have e2 : c.argTypes = #[t, u] := by rw [← Array.toArray_toList (xs := c.argTypes), hty]
  rw [run_builtin (P := C.E.P) ho hcal, e1, e2]
  simp only [builtin]
  exact run_v h

/-- A row that grows into a new block. -/
theorem app_grow (R : Rel C A K S a w) {c : Call} {x y : Operand} {t u e : TypeId} {sz b d td n m cap : Nat} {v0 : Value} {base : Option Addr} {cs vs : List AV} {olds news : List Value} (ho : o.op = .call c) (hcal : c.callee = .builtin .append) (hargs : c.args.toList = [x, y]) (hty : c.argTypes.toList = [t, u])
    (ht : C.E.P.underlying t = some (.slice e)) (hsz : sizeOfT C.E.P e = some (sz + 1)) (hb : bytesOfT C.E.P e = some (b + 1)) (hz0 : zeroOfT C.E.P e = some v0) (hvsz : v0.cells.size = sz + 1)
    (hdst : o.dst = some td) (hnp : C.np ≤ d) (hnt : td < C.nt) (hx : a.eval x = .slice base n cap)
    (hold : (Builtin.firstCells (sz + 1) n (.slice base n cap)).run C.E.P w.drew = .ok olds.toArray w.drew) (hro : RepL C.E w (Still C A K S.l w) cs olds) (hol : olds.length = n * (sz + 1))
    (hs : Src C.E.P (sz + 1) u (a.eval y) m news w) (hrn : RepL C.E w (Still C A K S.l w) vs news) (hg : cap < n + m) (hfit : (n + m) * (b + 1) ≤ 140737488355328) :
    KOk C a w o { s := put (mapS (kill1 d) S.s) td (.rs d 0 (n + m) (sz + 1)), l := put (del S.l d) d (cs ++ vs) } := by
  obtain ⟨i, hi, hiz⟩ := size_info hsz
  obtain ⟨i', hi', hib⟩ := bytes_info hb
  rw [hi] at hi'; cases hi'
  obtain ⟨i', hi', hi0⟩ := zero_info hz0
  rw [hi] at hi'; cases hi'
  have hnm : (n + m) * 1 ≤ (n + m) * (b + 1) := Nat.mul_le_mul_left _ (by omega)
  have hcap := slicecap_le hg
  have hfit' : Builtin.nextslicecap (n + m) cap * i.bytes ≤ 281474976710656 := by
    rw [hib]
    have : Builtin.nextslicecap (n + m) cap * (b + 1) ≤ 2 * (n + m) * (b + 1) := Nat.mul_le_mul_right _ hcap
    rw [Nat.mul_assoc] at this
    omega
  have hrun := run_append_grow_src w t u o.type e i v0 ht hi hi0 base n cap olds (by rw [hiz]; exact hold) (a.eval y) m news (by rw [hiz]; exact hs) hg (by omega) hfit'
  have hge := grownCap_ge w (n + m) cap e
  have hnl := hs.newsLen
  have hG : Grew w w.drew := Grew.drew w
  have R0 := R.grew hG
  have hr2 : RepL C.E w.drew (Still C A K S.l w.drew) (cs ++ vs) (olds ++ news) := (hro.append hrn).mono (fun b hb => hb.grew hG.size) (fun b hb => hG.block b hb.1)
  have R1 := R0.newRow (ext := (Builtin.zeroCells v0.cells (grownCap w (n + m) cap e - (n + m))).toList) (e := e) hnp hr2
  have hlen : ((olds ++ news) ++ (Builtin.zeroCells v0.cells (grownCap w (n + m) cap e - (n + m))).toList).length = grownCap w (n + m) cap e * (sz + 1) := by
    simp only [List.length_append, Array.length_toList, size_zeroCells, hol, hnl, hvsz, ← Nat.add_mul]
    congr 1; omega
  have e3 : ((olds ++ news) ++ (Builtin.zeroCells v0.cells (grownCap w (n + m) cap e - (n + m))).toList).toArray = (olds ++ news).toArray ++ Builtin.zeroCells v0.cells (grownCap w (n + m) cap e - (n + m)) := by
    apply Array.ext'; simp
  rw [e3] at R1
  have hrun' := run_app (C := C) (o := o) (a := a) ho hcal hargs hty (by rw [hx]; exact hrun)
  refine KOk.mk hdst hnt hrun' R1 (.one (.rs d 0 (n + m) (sz + 1) _ _ hnp hge ?_ fun _ => ?_))
  · rw [upd_same, hlen]; omega
  · rw [upd_same]; rfl

/-- A row of the call's own grows. -/
theorem k_app (R : Rel C A K S a w) {c : Call} {x y : Operand} {t u e e' : TypeId} {sz b d td n m : Nat} {v0 : Value} {cs vs : List AV} (ho : o.op = .call c) (hcal : c.callee = .builtin .append) (hargs : c.args.toList = [x, y]) (hty : c.argTypes.toList = [t, u])
    (ht : C.E.P.underlying t = some (.slice e)) (hu : C.E.P.underlying u = some (.slice e')) (hsz : sizeOfT C.E.P e = some (sz + 1)) (hb : bytesOfT C.E.P e = some (b + 1)) (hz0 : zeroOfT C.E.P e = some v0) (hvsz : v0.cells.size = sz + 1)
    (hdst : o.dst = some td) (hnt : td < C.nt) (hX : evalO S.s x = .rs d 0 n (sz + 1)) (hl : look S.l d = some cs) (hcs : cs.length = n * (sz + 1)) (hsrc : srcV S.l (sz + 1) d (evalO S.s y) = some (vs, m))
    (hfit : (n + m) * (b + 1) ≤ 140737488355328) :
    KOk C a w o { s := put (mapS (kill1 d) S.s) td (.rs d 0 (n + m) (sz + 1)), l := put (del S.l d) d (cs ++ vs) } := by
  have hx := R.eval x
  rw [hX] at hx
  obtain ⟨news, hs, hrn, hvl⟩ := src_sound R hu (R.eval y) hsrc
  obtain ⟨base, cap, hv, hnp, hn, hk, hb0⟩ := vrep_rs hx
  simp only [Nat.zero_add] at hk
  have hrow := R.row d cs hl
  obtain ⟨i, hi, hiz⟩ := size_info hsz
  by_cases hK : 0 < K d
  · have := hb0 hK; subst this
    obtain ⟨cc, te, h1, h2, h3⟩ := hrow.list hK
    have hnc : n * (sz + 1) ≤ cap * (sz + 1) := Nat.mul_le_mul_right _ hn
    by_cases hroom : n + m ≤ cap
    · have hmul : (n + m) * (sz + 1) ≤ cap * (sz + 1) := Nat.mul_le_mul_right _ hroom
      rw [Nat.add_mul] at hmul
      have hnl := hs.newsLen
      have hrun := run_append_room_src w t u o.type e i ht hi (A d) 0 n cap (a.eval y) m news (by rw [hiz]; exact hs) hroom (fun j hj => by
        rw [cell_of h1]; rw [hiz]; simp; omega) (fun j hj => by simp [World.frozen?, h1])
      rw [hiz, Nat.zero_add] at hrun
      have hrun' := run_app (C := C) (o := o) (a := a) ho hcal hargs hty (by rw [hv]; exact hrun)
      obtain ⟨m1, m2, m3, m4, m5⟩ := setCells_meta (A d) news (n * (sz + 1)) w
      have hnew := setCells_row (A d) te news (n * (sz + 1)) w cc h1 (by omega)
      have hlive : Live S.l K d := ⟨by rw [hl]; simp, hK⟩
      have hst : ∀ b', Still C A K S.l w b' → b' ≠ A d := fun b' hb' e => hb'.2.2 d hlive e.symm
      have hst2 : ∀ b', Still C A K S.l w b' → Still C (upd A d (A d)) (upd K d (K d)) (put (del S.l d) d (cs ++ vs)) (w.setCells (A d) (n * (sz + 1)) news) b' := fun b' hb' =>
        ⟨by rw [m4]; exact hb'.1, hb'.2.1, fun e' he' => by
          rcases live_upd.1 he' with ⟨rfl, _⟩ | ⟨hne, hl'⟩
          · rw [upd_same]; exact (hst b' hb').symm
          · rw [upd_other _ _ _ hne]; exact hb'.2.2 e' hl'⟩
      have R1 := R.reroot (w' := w.setCells (A d) (n * (sz + 1)) news) (d := d) (b := A d) (k := K d) (cs := cs ++ vs) hnp (by rw [m4]; exact Nat.le_refl _) (fun b' _ hne => m5 b' (hne hK)) m1 m2 m3 (fun _ => R.own d hlive) (fun _ => hst)
        (fun _ e' hne hl' h => hne (R.inj e' d hl' hlive h))
        (Row.ofList hnew (by simp; omega) (by simp; omega) (by
          have hr2 := (h3.append hrn).mono hst2 (fun b' hb' => m5 b' (hst b' hb'))
          have : (cc.take (n * (sz + 1)) ++ (news ++ cc.drop (n * (sz + 1) + news.length))).take (cs ++ vs).length = cc.take cs.length ++ news := by
            rw [← List.append_assoc]
            have e1 : (cs ++ vs).length = (cc.take (n * (sz + 1)) ++ news).length := by simp; omega
            rw [e1, List.take_left, hcs]
          rw [this]; exact hr2))
      refine KOk.mk hdst hnt hrun' R1 (.one (.rs d 0 (n + m) (sz + 1) _ _ hnp hroom ?_ fun _ => ?_))
      · rw [upd_same]; omega
      · rw [upd_same]
    · have hold := run_firstCells_some (P := C.E.P) w.drew (sz + 1) n ⟨A d, 0, none⟩ n cap (cc.take cs.length) (by rw [← h3.1]; exact hcs) (fun j v hv' => by
        obtain ⟨hj, rfl⟩ := List.getElem?_eq_some_iff.1 hv'
        simp only [List.length_take] at hj
        rw [Addr.add_mid]
        have : w.drew.cell? ⟨A d, 0 + j, none⟩ = w.cell? ⟨A d, 0 + j, none⟩ := rfl
        rw [this, cell_of h1]
        simp [show j < cc.length by omega])
      exact app_grow R ho hcal hargs hty ht hsz hb hz0 hvsz hdst hnp hnt hv hold h3 (by rw [← h3.1]; exact hcs) hs hrn (by omega) hfit
  · have h0 : cs = [] := List.length_eq_zero_iff.1 (by have := hrow.le; omega)
    subst h0
    simp only [List.length_nil] at hcs
    have hn0 : n = 0 := by rcases Nat.mul_eq_zero.1 hcs.symm with h | h <;> omega
    have hcap0 : cap = 0 := by
      have : cap * (sz + 1) = 0 := by omega
      rcases Nat.mul_eq_zero.1 this with h | h <;> omega
    subst hn0; subst hcap0
    by_cases hm : m = 0
    · subst hm
      have hvs : vs = [] := List.length_eq_zero_iff.1 (by rw [hvl]; simp)
      subst hvs
      have hnews : news = [] := List.length_eq_zero_iff.1 (by rw [← hrn.1]; rfl)
      subst hnews
      have hrun := run_append_nothing w t u o.type e i ht hi base 0 0 (Nat.le_refl _) (a.eval y) (by rw [hiz]; exact hs)
      have hrun' := run_app (C := C) (o := o) (a := a) ho hcal hargs hty (by rw [hv]; exact hrun)
      have R1 : Rel C (upd A d 0) (upd K d 0) { s := mapS (kill1 d) S.s, l := put (del S.l d) d ([] ++ []) } a w :=
        R.reroot hnp (Nat.le_refl _) (fun _ _ _ => rfl) rfl rfl rfl (fun h => by omega) (fun h => by omega) (fun h => by omega) ⟨by simp, fun h => by omega⟩
      refine KOk.mk hdst hnt hrun' R1 (.one (.rs d 0 0 (sz + 1) _ 0 hnp (Nat.le_refl _) (by simp) fun h => ?_))
      rw [upd_same] at h; omega
    · have hold : (Builtin.firstCells (sz + 1) 0 (.slice base 0 0)).run C.E.P w.drew = .ok ([] : List Value).toArray w.drew := by
        cases base with
        | none => exact run_firstCells_none w.drew _ _ _ _
        | some ad => exact run_firstCells_some (P := C.E.P) w.drew (sz + 1) 0 ad 0 0 [] (by simp) (fun j v hv' => by simp at hv')
      exact app_grow R ho hcal hargs hty ht hsz hb hz0 hvsz hdst hnp hnt hv hold RepL.nil (by simp) hs hrn (by omega) hfit

/-- .. out of nothing. -/
theorem k_appZ (R : Rel C A K S a w) {c : Call} {x y : Operand} {t u e e' : TypeId} {sz b d m : Nat} {v0 : Value} {vs : List AV} (ho : o.op = .call c) (hcal : c.callee = .builtin .append) (hargs : c.args.toList = [x, y]) (hty : c.argTypes.toList = [t, u])
    (ht : C.E.P.underlying t = some (.slice e)) (hu : C.E.P.underlying u = some (.slice e')) (hsz : sizeOfT C.E.P e = some (sz + 1)) (hb : bytesOfT C.E.P e = some (b + 1)) (hz0 : zeroOfT C.E.P e = some v0) (hvsz : v0.cells.size = sz + 1)
    (hdst : o.dst = some d) (hnp : C.np ≤ d) (hnt : d < C.nt) (hX : evalO S.s x = .z) (hsrc : srcV S.l (sz + 1) d (evalO S.s y) = some (vs, m))
    (hfit : m * (b + 1) ≤ 140737488355328) : KOk C a w o (S.root d vs (.rs d 0 m (sz + 1))) := by
  have hx := R.eval x
  rw [hX] at hx
  obtain ⟨news, hs, hrn, hvl⟩ := src_sound R hu (R.eval y) hsrc
  obtain ⟨base, hv⟩ := vrep_z hx
  obtain ⟨i, hi, hiz⟩ := size_info hsz
  by_cases hm : m = 0
  · subst hm
    have hvs : vs = [] := List.length_eq_zero_iff.1 (by rw [hvl]; simp)
    subst hvs
    have hnews : news = [] := List.length_eq_zero_iff.1 (by rw [← hrn.1]; rfl)
    subst hnews
    have hrun := run_append_nothing w t u o.type e i ht hi base 0 0 (Nat.le_refl _) (a.eval y) (by rw [hiz]; exact hs)
    have hrun' := run_app (C := C) (o := o) (a := a) ho hcal hargs hty (by rw [hv]; exact hrun)
    have R1 : Rel C (upd A d 0) (upd K d 0) { s := mapS (kill1 d) S.s, l := put (del S.l d) d [] } a w :=
      R.reroot hnp (Nat.le_refl _) (fun _ _ _ => rfl) rfl rfl rfl (fun h => by omega) (fun h => by omega) (fun h => by omega) ⟨by simp, fun h => by omega⟩
    refine KOk.mk hdst hnt hrun' R1 (.one (.rs d 0 0 (sz + 1) _ 0 hnp (Nat.le_refl _) (by simp) fun h => ?_))
    rw [upd_same] at h; omega
  · have hold : (Builtin.firstCells (sz + 1) 0 (.slice base 0 0)).run C.E.P w.drew = .ok ([] : List Value).toArray w.drew := by
      cases base with
      | none => exact run_firstCells_none w.drew _ _ _ _
      | some ad => exact run_firstCells_some (P := C.E.P) w.drew (sz + 1) 0 ad 0 0 [] (by simp) (fun j v hv' => by simp at hv')
    have := app_grow (n := 0) R ho hcal hargs hty ht hsz hb hz0 hvsz hdst hnp hnt hv hold RepL.nil (by simp) hs hrn (by omega) (by simpa using hfit)
    simpa [St.root] using this

end
end Zab
