/- The abstract machine's pure operations stand for the model's: each. No statement of the program stands here. -/
import Derived.Test.YtohilcdmockfbaaDoorZabPure
namespace Zab
open Go
set_option linter.unusedSimpArgs false
set_option linter.unusedVariables false

/-- A pure operation's end. -/
def PureOk (C : Ctx) (A K : Nat → Nat) (S : St) (a : Act) (w : World) (o : Oper) (r : AV) : Prop :=
  ∃ v w', (execOp a.eval o).run C.E.P w = .ok (.value v) w' ∧ Grew w w' ∧ VRep C.E C.np w' (Still C A K S.l w') A K r v

section
variable {C : Ctx} {A K : Nat → Nat} {S : St} {a : Act} {w : World} {o : Oper} {r : AV}

theorem PureOk.of {v : Value} (h : (execOp a.eval o).run C.E.P w = .ok (.value v) w) (hr : VRep C.E C.np w (Still C A K S.l w) A K r v) : PureOk C A K S a w o r :=
  ⟨v, w, h, Grew.refl w, hr⟩

theorem run_v {P : Program} {s : Sem Value} {v : Value} {w w' : World} (h : s.run P w = .ok v w') : (do pure (Next.value (← s)) : Sem Next).run P w = .ok (.value v) w' := by
  rw [Sem.run_bind, h]; rfl

theorem p_bin {sents : List Nat} (hE : EnvOk C.E sents) (R : Rel C A K S a w) {op : BinOp} {t u : TypeId} {x y : Operand} (ho : o.op = .binOp op t x y u)
    (h : binV (ekOf C.E.P op t x y) op (evalO S.s x) (evalO S.s y) = some r) : PureOk C A K S a w o r := by
  have hx := R.eval x
  have hy := R.eval y
  suffices ∃ v, (do eqGuard op t x y (a.eval x) (a.eval y); Go.binOp op t (a.eval x) (a.eval y) : Sem Value).run C.E.P w = .ok v w ∧ VRep C.E C.np w (Still C A K S.l w) A K r v by
    obtain ⟨v, h1, h2⟩ := this
    refine PureOk.of (v := v) ?_ h2
    simp only [execOp, ho]
    exact run_v h1
  have hcy : ∀ v, y = .const v → a.eval y = v := fun v e => by subst e; rfl
  generalize hX : evalO S.s x = X at h hx
  generalize hY : evalO S.s y = Y at h hy
  generalize a.eval x = vx at hx
  generalize a.eval y = vy at hy hcy
  unfold binV at h
  split at h
  · rename_i k p k' q
    have e1 := vrep_int hx
    have e2 := vrep_int hy
    subst e1; subst e2
    have hg : (eqGuard op t x y (.int k p) (.int k' q)).run C.E.P w = .ok () w := eqGuard_plain (by simp) (by simp)
    simp only [Sem.run_bind, hg, Result.andThen_ok]
    split at h
    · obtain ⟨v, hv, hr⟩ := shift_sound (P := C.E.P) (w := w) (yk := k') h
      exact ⟨v, by simpa [Go.binOp] using hv, .one (.flat (hr _ _))⟩
    · obtain ⟨v, hv, hr⟩ := shift_sound (P := C.E.P) (w := w) (yk := k') h
      exact ⟨v, by simpa [Go.binOp] using hv, .one (.flat (hr _ _))⟩
    · rename_i h1 h2
      by_cases hk : k = k'
      · subst hk
        simp only [decide_true, cond_true] at h
        obtain ⟨v, hv, hr⟩ := int_sound (P := C.E.P) (w := w) (t := t) (fun e => h1 e) (fun e => h2 e) h
        exact ⟨v, hv, .one (.flat (hr _ _))⟩
      · simp [hk] at h
  · rename_i hno
    split at h
    · cases he : eqlV (ekOf C.E.P .eql t x y) X Y with
      | none => simp [he] at h
      | some b =>
        simp only [he, Option.some.injEq] at h
        subst h
        obtain ⟨h1, h2, h3, _⟩ := eql_sound hE R.glob hx hy hcy he
        refine ⟨.bool b, ?_, .one (.flat (.b b))⟩
        simp only [Sem.run_bind, h1, Result.andThen_ok, h3, h2]
        rfl
    · cases he : eqlV (ekOf C.E.P .neq t x y) X Y with
      | none => simp [he] at h
      | some b =>
        simp only [he, Option.some.injEq] at h
        subst h
        obtain ⟨h1, h2, _, h3⟩ := eql_sound hE R.glob hx hy hcy he
        refine ⟨.bool (!b), ?_, .one (.flat (.b _))⟩
        simp only [Sem.run_bind, h1, Result.andThen_ok, h3, h2]
        rfl
    · cases h

theorem p_un (R : Rel C A K S a w) {op : UnOp} {t : TypeId} {x : Operand} (ho : o.op = .unOp op t x) (h : unV op (evalO S.s x) = some r) : PureOk C A K S a w o r := by
  have hx := R.eval x
  generalize evalO S.s x = X at h hx
  unfold unV at h
  split at h
  · simp only [Option.some.injEq] at h; subst h
    refine PureOk.of (v := .int _ _) ?_ (.one (.flat (.i _ _)))
    simp only [execOp, ho, vrep_int hx]
    exact run_v rfl
  · obtain ⟨v, hv, hr⟩ := bit_sound (P := C.E.P) (w := w) h
    refine PureOk.of (v := v) ?_ (.one (.flat (hr _ _)))
    simp only [execOp, ho, vrep_int hx]
    exact run_v hv
  · simp only [Option.some.injEq] at h; subst h
    refine PureOk.of (v := .bool _) ?_ (.one (.flat (.b _)))
    simp only [execOp, ho, vrep_bool hx]
    exact run_v rfl
  · cases h

theorem p_conv (R : Rel C A K S a w) {s d : TypeId} {k k0 : IntKind} {x : Operand} (ho : o.op = .convert s d x) (hs : C.E.P.underlying s = some (.int k0)) (hd : C.E.P.underlying d = some (.int k))
    (h : pureV (evalO S.s) (.conv k x) = some r) : PureOk C A K S a w o r := by
  have hx := R.eval x
  simp only [pureV] at h
  split at h <;> first | (cases h; done) | skip
  rename_i hX
  rw [hX] at hx
  simp only [Option.some.injEq] at h; subst h
  refine PureOk.of (v := .int _ _) ?_ (.one (.flat (.i _ _)))
  simp only [execOp, ho, vrep_int hx]
  refine run_v ?_
  simp only [Go.convert, Sem.run_bind, run_underlying hs, run_underlying hd, Result.andThen_ok]
  rfl

theorem p_move (R : Rel C A K S a w) {x : Operand} (ho : o.op = .move x ∨ o.op = .assign x) (h : some (evalO S.s x) = some r) : PureOk C A K S a w o r := by
  cases h
  refine PureOk.of (v := a.eval x) ?_ (R.eval x)
  rcases ho with ho | ho <;> (simp only [execOp, ho]; rfl)

theorem p_pick (R : Rel C A K S a w) {c x y : Operand} (ho : o.op = .pick c x y) (h : pureV (evalO S.s) (.pick c x y) = some r) : PureOk C A K S a w o r := by
  have hc := R.eval c
  simp only [pureV] at h
  split at h <;> first | (cases h; done) | skip
  rename_i t hX
  rw [hX] at hc
  cases h
  refine PureOk.of (v := if t then a.eval x else a.eval y) ?_ (by cases t <;> simp [R.eval])
  simp only [execOp, ho, vrep_bool hc]
  rfl

theorem p_addr (R : Rel C A K S a w) {s : TypeId} {fs : Array Field} {f : Nat} {fd : Field} {n : Nat} {x : Operand} (ho : o.op = .fieldAddr s x f) (hs : C.E.P.underlying s = some (.struct fs)) (hf : fs[f]? = some fd)
    (hz : sizeOfT C.E.P fd.type = some (n + 1)) (h : pureV (evalO S.s) (.addr fd.offset x) = some r) : PureOk C A K S a w o r := by
  have hx := R.eval x
  obtain ⟨i, hi, hin⟩ : ∃ i, C.E.P.info? fd.type = some i ∧ i.size = n + 1 := by
    unfold sizeOfT at hz
    cases hi : C.E.P.info? fd.type with
    | none => simp [hi] at hz
    | some i => exact ⟨i, rfl, by simpa [hi] using hz⟩
  have run : ∀ b off, (Instr.fieldAt s (.pointer (some ⟨b, off, none⟩)) f).run C.E.P w = .ok (.pointer (some ⟨b, off + fd.offset, none⟩)) w := fun b off => by
    simp [Instr.fieldAt, run_underlying hs, hf, Instr.sureAddr, fieldPlace, Go.sizeOf, typeInfo, hi, hin, Addr.add_mid]
  simp only [pureV] at h
  split at h <;> first | (cases h; done) | skip
  · rename_i d off hX
    rw [hX] at hx
    cases h
    refine PureOk.of (v := .pointer (some ⟨A d, off + fd.offset, none⟩)) ?_ (.one (.rf _ _))
    simp only [execOp, ho, vrep_rf hx]
    exact run_v (run _ _)
  · rename_i cs off hX
    rw [hX] at hx
    cases h
    obtain ⟨blk, o', g, hv, hN, hc, h1⟩ := vrep_el hx
    refine PureOk.of (v := .pointer (some ⟨blk, o' + (off + fd.offset), none⟩)) ?_ (.one (.el cs _ blk o' g hN hc h1))
    simp only [execOp, ho, hv]
    rw [← Nat.add_assoc]
    exact run_v (run _ _)

theorem size_info {P : Program} {t : TypeId} {n : Nat} (h : sizeOfT P t = some n) : ∃ i, P.info? t = some i ∧ i.size = n := by
  unfold sizeOfT at h
  cases hi : P.info? t with
  | none => simp [hi] at h
  | some i => exact ⟨i, rfl, by simpa [hi] using h⟩
theorem bytes_info {P : Program} {t : TypeId} {n : Nat} (h : bytesOfT P t = some n) : ∃ i, P.info? t = some i ∧ i.bytes = n := by
  unfold bytesOfT at h
  cases hi : P.info? t with
  | none => simp [hi] at h
  | some i => exact ⟨i, rfl, by simpa [hi] using h⟩
theorem zero_info {P : Program} {t : TypeId} {v : Value} (h : zeroOfT P t = some v) : ∃ i, P.info? t = some i ∧ i.zero = some v := by
  unfold zeroOfT at h
  cases hi : P.info? t with
  | none => simp [hi] at h
  | some i => exact ⟨i, rfl, by simpa [hi] using h⟩

theorem p_ixA (R : Rel C A K S a w) {t e : TypeId} {len sz : Nat} {x i : Operand} (ho : o.op = .indexAddr t x i) (ht : C.E.P.underlying t = some (.array len e)) (hz : sizeOfT C.E.P e = some sz)
    (h : pureV (evalO S.s) (.ixA len sz x i) = some r) : PureOk C A K S a w o r := by
  have hx := R.eval x
  have hi := R.eval i
  obtain ⟨inf, h1, h2⟩ := size_info hz
  simp only [pureV] at h
  split at h <;> first | (cases h; done) | skip
  rename_i k j hI
  rw [hI] at hi
  cases hb : (decide (0 ≤ j) && decide (j < (len : Int)))
  · simp [hb] at h
  · simp only [hb, cond_true] at h
    simp only [Bool.and_eq_true, decide_eq_true_eq] at hb
    have run : ∀ b off, (Instr.indexAt t (.pointer (some ⟨b, off, none⟩)) (.int k j)).run C.E.P w = .ok (.pointer (some ⟨b, off + j.toNat * sz, none⟩)) w := fun b off => by
      simp [Instr.indexAt, asIntOf, run_underlying ht, Instr.sureAddr, Go.sizeOf, typeInfo, h1, h2, hb, Addr.add_mid]
    split at h <;> first | (cases h; done) | skip
    · rename_i d off hX
      rw [hX] at hx
      cases h
      refine PureOk.of (v := .pointer (some ⟨A d, off + j.toNat * sz, none⟩)) ?_ (.one (.rf _ _))
      simp only [execOp, ho, vrep_rf hx, vrep_int hi]
      exact run_v (run _ _)
    · rename_i cs off hX
      rw [hX] at hx
      cases h
      obtain ⟨blk, o', g, hv, hN, hc, h1⟩ := vrep_el hx
      refine PureOk.of (v := .pointer (some ⟨blk, o' + (off + j.toNat * sz), none⟩)) ?_ (.one (.el cs _ blk o' g hN hc h1))
      simp only [execOp, ho, hv, vrep_int hi]
      rw [← Nat.add_assoc]
      exact run_v (run _ _)

theorem p_ixS (R : Rel C A K S a w) {t e : TypeId} {sz : Nat} {x i : Operand} (ho : o.op = .indexAddr t x i) (ht : C.E.P.underlying t = some (.slice e)) (hz : sizeOfT C.E.P e = some (sz + 1))
    (h : pureV (evalO S.s) (.ixS (sz + 1) x i) = some r) : PureOk C A K S a w o r := by
  have hx := R.eval x
  have hi := R.eval i
  obtain ⟨inf, h1, h2⟩ := size_info hz
  simp only [pureV] at h
  split at h <;> first | (cases h; done) | skip
  rename_i k j hI
  rw [hI] at hi
  have run : ∀ b off n c, 0 ≤ j → j < (n : Nat) → (Instr.indexAt t (.slice (some ⟨b, off, none⟩) n c) (.int k j)).run C.E.P w = .ok (.pointer (some ⟨b, off + j.toNat * (sz + 1), none⟩)) w := fun b off n c p q => by
    simp [Instr.indexAt, asIntOf, run_underlying ht, Go.sizeOf, typeInfo, h1, h2, p, q, Addr.add_mid]
  split at h <;> first | (cases h; done) | skip
  · rename_i cs n hX
    rw [hX] at hx
    cases hb : (Nat.blt (j.toNat * (sz + 1)) cs.length && (decide (0 ≤ j) && decide (j < (n : Int))))
    · simp [hb] at h
    · simp only [hb, cond_true] at h
      simp only [Bool.and_eq_true, decide_eq_true_eq, Nat.blt_eq] at hb
      cases h
      obtain ⟨hlt, hb⟩ := hb
      obtain ⟨base, c, g, hv, hn, h0, h3⟩ := vrep_sl hx
      rcases h0 with rfl | ⟨blk, off, rfl, hN, hc⟩
      · simp at hlt
      · refine PureOk.of (v := .pointer (some ⟨blk, off + j.toNat * (sz + 1), none⟩)) ?_ (.one (.el cs _ blk off g hN hc h3))
        simp only [execOp, ho, hv, vrep_int hi]
        exact run_v (run _ _ _ _ hb.1 hb.2)
  · rename_i d off n sz' hX
    rw [hX] at hx
    cases hb : (Nat.beq (sz + 1) sz' && (decide (0 ≤ j) && decide (j < (n : Int))))
    · simp [hb] at h
    · simp only [hb, cond_true] at h
      simp only [Bool.and_eq_true, decide_eq_true_eq, Nat.beq_eq] at hb
      cases h
      obtain ⟨rfl, hb⟩ := hb
      obtain ⟨base, c, hv, hnp, hn, hk, hb0⟩ := vrep_rs hx
      have hK : 0 < K d := by
        have : 0 < c := by omega
        have : 1 * 1 ≤ c * (sz + 1) := Nat.mul_le_mul this (by omega)
        omega
      have := hb0 hK; subst this
      refine PureOk.of (v := .pointer (some ⟨A d, off + j.toNat * (sz + 1), none⟩)) ?_ (.one (.rf _ _))
      simp only [execOp, ho, hv, vrep_int hi]
      exact run_v (run _ _ _ _ hb.1 hb.2)


theorem p_fld (R : Rel C A K S a w) {t : TypeId} {fs : Array Field} {f : Nat} {fd : Field} {m : Option Nat} {x : Operand} (ho : o.op = .field t x f) (hs : C.E.P.underlying t = some (.struct fs)) (hf : fs[f]? = some fd)
    (hm : aggOfT C.E.P fd.type = some m) (h : pureV (evalO S.s) (.fld fd.offset m x) = some r) : PureOk C A K S a w o r := by
  have hx := R.eval x
  simp only [pureV] at h
  split at h <;> first | (cases h; done) | skip
  rename_i cs hX
  rw [hX] at hx
  obtain ⟨l, hv, hr⟩ := vrep_agL hx
  obtain ⟨v, h1, h2⟩ := part_sound (np := C.np) (A := A) (K := K) hm hr h
  refine PureOk.of (v := v) ?_ h2
  simp only [execOp, ho, hv]
  refine run_v ?_
  simp [Instr.field, run_underlying hs, hf, asAgg, h1]

theorem p_ixV (R : Rel C A K S a w) {t e : TypeId} {len sz : Nat} {m : Option Nat} {x i : Operand} (ho : o.op = .index t x i) (ht : C.E.P.underlying t = some (.array len e)) (hz : sizeOfT C.E.P e = some sz)
    (hm : aggOfT C.E.P e = some m) (h : pureV (evalO S.s) (.ixV len sz m x i) = some r) : PureOk C A K S a w o r := by
  have hx := R.eval x
  have hi := R.eval i
  obtain ⟨inf, h1, h2⟩ := size_info hz
  simp only [pureV] at h
  split at h <;> first | (cases h; done) | skip
  rename_i k j hI
  rw [hI] at hi
  cases hb : (decide (0 ≤ j) && decide (j < (len : Int)))
  · simp [hb] at h
  · simp only [hb, cond_true] at h
    simp only [Bool.and_eq_true, decide_eq_true_eq] at hb
    split at h <;> first | (cases h; done) | skip
    rename_i cs hX
    rw [hX] at hx
    obtain ⟨l, hv, hr⟩ := vrep_agL hx
    obtain ⟨v, h3, h4⟩ := part_sound (np := C.np) (A := A) (K := K) hm hr h
    refine PureOk.of (v := v) ?_ h4
    simp only [execOp, ho, hv, vrep_int hi]
    refine run_v ?_
    simp [Instr.index, asIntOf, run_underlying ht, Go.sizeOf, typeInfo, h1, h2, hb, h3]

theorem p_ixStr (R : Rel C A K S a w) {t : TypeId} {x i : Operand} (ho : o.op = .index t x i) (ht : C.E.P.underlying t = some .string) (h : pureV (evalO S.s) (.ixStr x i) = some r) : PureOk C A K S a w o r := by
  have hx := R.eval x
  have hi := R.eval i
  simp only [pureV] at h
  split at h <;> first | (cases h; done) | skip
  rename_i k j hI
  rw [hI] at hi
  split at h <;> first | (cases h; done) | skip
  rename_i s hX
  rw [hX] at hx
  by_cases hj : 0 ≤ j
  · simp only [hj, decide_true, cond_true] at h
    split at h <;> first | (cases h; done) | skip
    rename_i c hc
    cases h
    refine PureOk.of (v := .int .u8 c.toNat) ?_ (.one (.flat (.i _ _)))
    simp only [execOp, ho, vrep_str hx, vrep_int hi]
    refine run_v ?_
    simp [Instr.index, asIntOf, run_underlying ht, hj, hc]
  · simp [hj] at h

theorem p_ext (R : Rel C A K S a w) {x : Operand} {j : Nat} (ho : o.op = .extract x j) (h : pureV (evalO S.s) (.ext j x) = some r) : PureOk C A K S a w o r := by
  have hx := R.eval x
  simp only [pureV] at h
  split at h <;> first | (cases h; done) | skip
  rename_i l hX
  rw [hX] at hx
  obtain ⟨vs, hv, hl, hr⟩ := vrep_tp hx
  obtain ⟨hj, rfl⟩ := List.getElem?_eq_some_iff.1 h
  refine PureOk.of (v := vs[j]'(by omega)) ?_ (.one (hr j hj (by omega)))
  simp only [execOp, ho, hv]
  refine run_v ?_
  simp [Instr.extract, List.getElem?_eq_getElem (show j < vs.length by omega)]

theorem run_typeInfo {P : Program} {t : TypeId} {i : TypeInfo} (h : P.info? t = some i) (w : World) : (typeInfo t).run P w = .ok i w := by
  simp [typeInfo, program, Sem.run, h]

theorem run_zeroValue {P : Program} {t : TypeId} {v : Value} (h : zeroOfT P t = some v) (w : World) : (zeroValue t).run P w = .ok v w := by
  obtain ⟨i, hi, hz⟩ := zero_info h
  simp [zeroValue, typeInfo, program, Sem.run, hi, hz]

theorem zero_cells {v : Value} {zs : List AV} (h : zeroCellsOf v = some zs) {E : Env} {N : Nat → Prop} {w : World} : RepL E w N zs v.cells.toList := by
  unfold zeroCellsOf at h
  cases hb : v.cells.toList.all flatConst
  · simp [hb] at h
  · simp only [hb, cond_true, Option.some.injEq] at h
    subst h
    exact RepL.consts hb

theorem structParts_of {P : Program} {fs : Array Field} : ∀ {l : List (Nat × Operand)} {ps : List (Nat × Nat × Operand)}, structParts P fs l = some ps →
    ps.length = l.length ∧ ∀ j (h1 : j < ps.length) (h2 : j < l.length), (∃ f, fs[(l[j]).1]? = some f ∧ f.offset = (ps[j]).1 ∧ sizeOfT P f.type = some (ps[j]).2.1) ∧ (ps[j]).2.2 = (l[j]).2
  | [], ps, h => by simp only [structParts, Option.some.injEq] at h; subst h; exact ⟨rfl, fun j h1 => by simp at h1⟩
  | (i, x) :: l, ps, h => by
    simp only [structParts] at h
    cases hf : fs[i]? with
    | none => simp [hf] at h
    | some f =>
      simp only [hf] at h
      cases hs : sizeOfT P f.type with
      | none => simp [hs] at h
      | some sz =>
        cases hr : structParts P fs l with
        | none => simp [hs, hr] at h
        | some qs =>
          simp only [hs, hr, Option.some.injEq] at h
          subst h
          obtain ⟨h1, h2⟩ := structParts_of hr
          refine ⟨by simp [h1], fun j p q => ?_⟩
          cases j with
          | zero => exact ⟨⟨f, hf, rfl, hs⟩, rfl⟩
          | succ j => exact h2 j (by simpa using p) (by simpa using q)

theorem rowParts_of {sz : Nat} : ∀ (l : List (Nat × Operand)), (rowParts sz l).length = l.length ∧ ∀ j (h1 : j < (rowParts sz l).length) (h2 : j < l.length), ((rowParts sz l)[j]).1 = (l[j]).1 * sz ∧ ((rowParts sz l)[j]).2.1 = sz ∧ ((rowParts sz l)[j]).2.2 = (l[j]).2
  | [] => ⟨rfl, fun j h1 => by simp [rowParts] at h1⟩
  | (i, x) :: l => by
    obtain ⟨h1, h2⟩ := rowParts_of (sz := sz) l
    refine ⟨by simp [rowParts, h1], fun j p q => ?_⟩
    cases j with
    | zero => exact ⟨rfl, rfl, rfl⟩
    | succ j => exact h2 j (by simpa [rowParts] using p) (by simpa using q)

theorem run_places {P : Program} : ∀ (l : List Field), (l.all fun f => (sizeOfT P f.type).isSome) = true → ∃ ps : List (Nat × Nat), (l.mapM fun f => (do pure (f.offset, ← Go.sizeOf f.type) : Sem (Nat × Nat))).run P w = .ok ps w ∧
    ∀ (j : Nat) (f : Field), l[j]? = some f → ps[j]? = some (f.offset, (sizeOfT P f.type).getD 0)
  | [], _ => ⟨[], by simp, fun j f h => by simp at h⟩
  | f :: l, h => by
    simp only [List.all_cons, Bool.and_eq_true] at h
    obtain ⟨ps, h1, h2⟩ := run_places l h.2
    obtain ⟨n, hn⟩ := Option.isSome_iff_exists.1 h.1
    obtain ⟨i, hi, hz⟩ := size_info hn
    refine ⟨(f.offset, n) :: ps, ?_, fun j g hg => ?_⟩
    · rw [List.mapM_cons]
      simp [Go.sizeOf, typeInfo, hi, hz] at h1 ⊢
      simp [h1]
    · cases j with
      | zero => simp only [List.getElem?_cons_zero, Option.some.injEq] at hg ⊢; subst hg; simp [hn]
      | succ j => simpa using h2 j g (by simpa using hg)

theorem p_buildStruct (R : Rel C A K S a w) {t : TypeId} {fs : Array Field} {parts : Array (Nat × Operand)} {zs : List AV} {ps : List (Nat × Nat × Operand)} {v0 : Value} (ho : o.op = .build t parts)
    (hs : C.E.P.underlying t = some (.struct fs)) (hz0 : zeroOfT C.E.P t = some v0) (hall : (fs.toList.all fun f => (sizeOfT C.E.P f.type).isSome) = true) (hz : zeroCellsOf v0 = some zs) (hp : structParts C.E.P fs parts.toList = some ps)
    (h : pureV (evalO S.s) (.build zs ps) = some r) : PureOk C A K S a w o r := by
  simp only [pureV] at h
  cases hf : fillV (evalO S.s) ps zs with
  | none => simp [hf] at h
  | some cs =>
    simp only [hf, Option.some.injEq] at h
    subst h
    obtain ⟨i, hi, hiz⟩ := zero_info hz0
    obtain ⟨places, hpl, hpl2⟩ := run_places (w := w) fs.toList hall
    obtain ⟨q1, q2⟩ := structParts_of hp
    obtain ⟨l', hl', hr⟩ := fill_sound (np := C.np) (A := A) (K := K) (place := (places.toArray[·]?)) (ρ := evalO S.s) (ev := a.eval) (fun x => R.eval x) parts.toList ps ⟨q1, fun j h1 h2 => by
      obtain ⟨⟨f, hf1, hf2, hf3⟩, hf4⟩ := q2 j h1 h2
      refine ⟨?_, hf4⟩
      have := hpl2 _ f (by simpa using hf1)
      simp [this, hf2, hf3]⟩ (zero_cells hz) hf
    refine PureOk.of (v := .agg l'.toArray) ?_ (VRep.agL hr)
    simp only [execOp, ho]
    refine run_v ?_
    have hmapM : (fs.mapM fun f => (do pure (f.offset, ← Go.sizeOf f.type) : Sem (Nat × Nat))).run C.E.P w = .ok places.toArray w := by
      rw [← Array.toArray_toList (xs := fs)] 
      rw [List.mapM_toArray]
      simp only [Sem.run_map, hpl, Result.andThen_ok]
    have hz' := run_zeroValue hz0 w
    simp only [Instr.build, Sem.run_bind, hz', Result.andThen_ok, run_underlying hs, hmapM]
    simp only [Array.toList_map, Array.toArray_toList] at hl' ⊢
    rw [hl']; rfl

theorem p_buildArr (R : Rel C A K S a w) {t e : TypeId} {len sz : Nat} {parts : Array (Nat × Operand)} {zs : List AV} {v0 : Value} (ho : o.op = .build t parts)
    (hs : C.E.P.underlying t = some (.array len e)) (hz0 : zeroOfT C.E.P t = some v0) (hsz : sizeOfT C.E.P e = some sz) (hz : zeroCellsOf v0 = some zs)
    (h : pureV (evalO S.s) (.build zs (rowParts sz parts.toList)) = some r) : PureOk C A K S a w o r := by
  simp only [pureV] at h
  cases hf : fillV (evalO S.s) (rowParts sz parts.toList) zs with
  | none => simp [hf] at h
  | some cs =>
    simp only [hf, Option.some.injEq] at h
    subst h
    obtain ⟨i, hi, hiz⟩ := size_info hsz
    obtain ⟨q1, q2⟩ := rowParts_of (sz := sz) parts.toList
    obtain ⟨l', hl', hr⟩ := fill_sound (np := C.np) (A := A) (K := K) (place := fun i => some (i * sz, sz)) (ρ := evalO S.s) (ev := a.eval) (fun x => R.eval x) parts.toList _ ⟨q1, fun j h1 h2 => by
      obtain ⟨e1, e2, e3⟩ := q2 j h1 h2
      exact ⟨by simp [e1, e2], e3⟩⟩ (zero_cells hz) hf
    refine PureOk.of (v := .agg l'.toArray) ?_ (VRep.agL hr)
    simp only [execOp, ho]
    refine run_v ?_
    have hz' := run_zeroValue hz0 w
    simp only [Instr.build, Sem.run_bind, hz', Result.andThen_ok, run_underlying hs, Go.sizeOf, typeInfo, program, Sem.run]
    simp only [hi, Sem.run_pure, Result.andThen_ok, hiz]
    simp only [Array.toList_map, Array.toArray_toList] at hl' ⊢
    rw [hl']; rfl

theorem isSliceT_of {P : Program} {t e : TypeId} (h : isSliceT P t = some e) : P.underlying t = some (.slice e) := by
  unfold isSliceT at h
  split at h
  · rename_i hh; simp only [Option.some.injEq] at h; subst h; exact hh
  · cases h

/-- New cells, never to be written: a slice by value. -/
theorem newSl (R : Rel C A K S a w) {cs : List AV} {l ext : List Value} {e : TypeId} {n c : Nat} (hn : n ≤ c) (hr : RepL C.E w (Still C A K S.l w) cs l) :
    VRep C.E C.np (w.alloc (.cells (l ++ ext).toArray e)) (Still C A K S.l (w.alloc (.cells (l ++ ext).toArray e))) A K (.sl cs n) (.slice (some ⟨w.heap.size, 0, none⟩) n c) := by
  have G := Grew.alloc w (.cells (l ++ ext).toArray e)
  have hr' := hr.mono (w' := w.alloc (.cells (l ++ ext).toArray e)) (N' := Still C A K S.l (w.alloc (.cells (l ++ ext).toArray e))) (fun b hb => hb.grew G.size) (fun b hb => G.block b hb.1)
  refine .one (.flat (.sl cs n _ c (fun j => l.getD j undef) hn (.inr ⟨w.heap.size, 0, rfl, R.still_new _, fun j hj => ?_⟩) fun j hj => ?_))
  · have hj' : j < l.length := by rw [← hr.1]; exact hj
    rw [World.cell?_alloc_new]
    simp [List.getElem?_append_left hj', List.getElem?_eq_getElem hj']
  · have hj' : j < l.length := by rw [← hr.1]; exact hj
    have := hr'.2 j hj hj'
    simpa [List.getElem?_eq_getElem hj'] using this

theorem range_rep (z : Array Value) (hz : 0 < z.size) (n : Nat) : ((Array.range (n * z.size)).map (z[· % z.size]!)).toList = (List.replicate n z.toList).flatten := by
  apply List.ext_getElem?
  intro j
  have hlen : (List.replicate n z.toList).flatten.length = n * z.size := by simp
  by_cases hj : j < n * z.size
  · have hj2 : j < (List.replicate n z.toList).flatten.length := by rw [hlen]; exact hj
    have hm : j % z.size < z.size := Nat.mod_lt _ hz
    have key : ∀ (n j : Nat), j < n * z.size → (List.replicate n z.toList).flatten[j]? = z[j % z.size]? := by
      intro n
      induction n with
      | zero => intro j hj; simp at hj
      | succ n ih =>
        intro j hj
        rw [List.replicate_succ, List.flatten_cons]
        by_cases h : j < z.size
        · rw [List.getElem?_append_left (by simpa using h), Nat.mod_eq_of_lt h]; simp
        · rw [List.getElem?_append_right (by simpa using Nat.le_of_not_lt h)]
          simp only [Array.length_toList]
          rw [ih (j - z.size) (by rw [Nat.succ_mul] at hj; omega)]
          congr 1
          rw [Nat.mod_eq_sub_mod (Nat.le_of_not_lt h)]
    rw [key n j hj]
    simp [hj, hm, getElem!_pos]
  · rw [List.getElem?_eq_none (by simp; omega), List.getElem?_eq_none (by rw [hlen]; omega)]

theorem p_bsl (R : Rel C A K S a w) {t e : TypeId} {n sz : Nat} {parts : Array (Nat × Operand)} {zs : List AV} (ho : o.op = .buildSlice t n parts)
    (ht : C.E.P.underlying t = some (.slice e)) (hsz : sizeOfT C.E.P e = some (sz + 1)) (hz : (zeroOfT C.E.P e).bind zeroCellsOf = some zs) (hzl : zs.length = sz + 1) (hle : n * (sz + 1) ≤ 16777216) {cs : List AV}
    (hf : fillV (evalO S.s) (rowParts (sz + 1) parts.toList) (zrep zs n) = some cs) :
    ∃ l' : List Value, RepL C.E w (Still C A K S.l w) cs l' ∧ (execOp a.eval o).run C.E.P w = .ok (.value (.slice (some ⟨w.heap.size, 0, none⟩) n n)) (w.alloc (.cells l'.toArray e)) := by
  cases hz0 : zeroOfT C.E.P e with
  | none => simp [hz0] at hz
  | some v0 =>
    simp only [hz0, Option.bind_some] at hz
    obtain ⟨i, hi, hiz⟩ := size_info hsz
    have hrz := zero_cells (E := C.E) (N := Still C A K S.l w) (w := w) hz
    have hvsz : v0.cells.size = sz + 1 := by have := hrz.1; simp at this; omega
    obtain ⟨q1, q2⟩ := rowParts_of (sz := sz + 1) parts.toList
    obtain ⟨l', hl', hr⟩ := fill_sound (np := C.np) (A := A) (K := K) (place := fun i => some (i * (sz + 1), sz + 1)) (ρ := evalO S.s) (ev := a.eval) (fun x => R.eval x) parts.toList _ ⟨q1, fun j h1 h2 => by
      obtain ⟨e1, e2, e3⟩ := q2 j h1 h2
      exact ⟨by simp [e1, e2], e3⟩⟩ (hrz.flatten_rep n) hf
    refine ⟨l', hr, ?_⟩
    simp only [execOp, ho]
    refine run_v ?_
    have hzr := range_rep v0.cells (by omega) n
    rw [hvsz] at hzr
    by_cases hn : n = 0
    · subst hn
      have hz1 : (List.replicate 0 v0.cells.toList).flatten = [] := rfl
      rw [hz1] at hl'
      have hr0 : (Array.map (fun x => (default : Value)) (Array.range 0)) = #[] := by simp
      simp only [Instr.buildSlice, Sem.run_bind, run_underlying ht, Result.andThen_ok, Go.sizeOf, run_typeInfo hi, Sem.run_pure, hiz]
      rw [if_neg (by omega)]
      simp only [Sem.run_bind, Nat.zero_mul, if_true, Result.andThen_ok, Sem.run_pure, run_typeInfo hi, hiz]
      rw [show (Array.map (fun x => (x.fst, a.eval x.snd)) parts).toList = parts.toList.map fun p => (p.1, a.eval p.2) by simp]
      rw [show (Array.map (fun x => (#[] : Array Value)[x % (#[] : Array Value).size]!) (Array.range 0)) = #[] by simp, hl']
      simp [newRow, newObj, Sem.run, World.alloc_eq]
    · have hz' := run_zeroValue hz0 w
      have : ¬ (16777216 < n * (sz + 1)) := by omega
      have hne : ¬ (n * (sz + 1) = 0) := by
        intro h0
        rcases Nat.mul_eq_zero.1 h0 with h0 | h0 <;> omega
      have hl2 : Instr.fill (fun i => some (i * (sz + 1), sz + 1)) ((Array.range (n * (sz + 1))).map (v0.cells[· % v0.cells.size]!)) (parts.toList.map fun p => (p.1, a.eval p.2)) = some l'.toArray := by
        rw [← hl', ← hzr]
        simp only [hvsz, Array.toArray_toList]
      simp only [Instr.buildSlice, Sem.run_bind, run_underlying ht, Result.andThen_ok, Go.sizeOf, run_typeInfo hi, Sem.run_pure, hiz]
      rw [if_neg (by omega)]
      simp only [Sem.run_bind, if_neg hne, hz', Result.andThen_ok, Sem.run_pure]
      rw [show (Array.map (fun x => (x.fst, a.eval x.snd)) parts).toList = parts.toList.map fun p => (p.1, a.eval p.2) by simp]
      rw [hl2]
      simp [newRow, newObj, Sem.run, World.alloc_eq]

end
end Zab
