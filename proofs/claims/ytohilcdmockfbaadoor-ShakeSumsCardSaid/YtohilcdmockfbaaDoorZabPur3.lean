/- The abstract machine's pure operations stand for the model's: the rest, and all. No statement of the program stands here. -/
import Derived.Test.YtohilcdmockfbaaDoorZabPur2
namespace Zab
open Go
set_option linter.unusedSimpArgs false
set_option linter.unusedVariables false

section
variable {C : Ctx} {A K : Nat → Nat} {S : St} {a : Act} {w : World} {o : Oper} {r : AV}

theorem wrap_small {n : Int} (h0 : 0 ≤ n) (h1 : n ≤ 9223372036854775807) : IntKind.i64.wrap n = n := by
  unfold IntKind.wrap IntKind.bits IntKind.signed
  have e : n % (2 ^ 64 : Int) = n := Int.emod_eq_of_lt h0 (by omega)
  simp only [e]
  rw [if_neg]
  simp only [Bool.true_and, decide_eq_true_eq]
  have : (2 ^ (64 - 1) : Int) = 9223372036854775808 := by decide
  rw [this]; omega

theorem run_mk {P : Program} {t e : TypeId} {sz b : Nat} {v0 : Value} {n m : Nat} (ht : P.underlying t = some (.slice e)) (hsz : sizeOfT P e = some (sz + 1)) (hb : bytesOfT P e = some (b + 1)) (hz0 : zeroOfT P e = some v0)
    (hvsz : v0.cells.size = sz + 1) (hnm : n ≤ m) (hm : m * (b + 1) ≤ 140737488355328) (w : World) :
    (Instr.makeSlice t (.int .i64 n) (.int .i64 m)).run P w = .ok (.slice (some ⟨w.heap.size, 0, none⟩) n m) (w.alloc (.cells (List.replicate m v0.cells.toList).flatten.toArray e)) := by
  obtain ⟨i, hi, hiz⟩ := size_info hsz
  obtain ⟨i', hi', hib⟩ := bytes_info hb
  rw [hi] at hi'; cases hi'
  have hm0 : m * 1 ≤ m * (b + 1) := Nat.mul_le_mul_left m (by omega)
  have w1 : IntKind.i64.wrap (n : Int) = n := wrap_small (by omega) (by omega)
  have w2 : IntKind.i64.wrap (m : Int) = m := wrap_small (by omega) (by omega)
  have hbig : ¬ ((((b + 1 : Nat) : Int) * (m : Int) > 2 ^ 48)) := by
    have : ((b + 1 : Nat) : Int) * (m : Int) = ((m * (b + 1) : Nat) : Int) := by push_cast; rw [Int.mul_comm]
    rw [this]; omega
  have hcond : (decide (((m : Int) < 0)) || decide ((((b + 1 : Nat) : Int) * (m : Int) > 2 ^ 48)) || decide (((n : Int) < 0)) || decide ((n : Int) > (m : Int))) = false := by
    simp only [Bool.or_eq_false_iff, decide_eq_false_iff_not]
    exact ⟨⟨⟨by omega, hbig⟩, by omega⟩, by omega⟩
  have hzr := range_rep v0.cells (by omega) m
  rw [hvsz] at hzr
  simp only [Instr.makeSlice, Sem.run_bind, run_underlying ht, Result.andThen_ok, asInt, asIntOf, Sem.run_pure, run_typeInfo hi, w1, w2, hib]
  rw [if_neg (by simpa using hcond)]
  simp only [Sem.run_bind, run_askRoom, Result.andThen_ok, Go.sizeOf, run_typeInfo hi, Sem.run_pure, hiz, Int.toNat_natCast]
  by_cases hm' : m = 0
  · subst hm'
    have e0 : (Array.map (fun x => (#[] : Array Value)[x % (#[] : Array Value).size]!) (Array.range 0)) = #[] := by simp
    simp only [Nat.zero_mul, if_true, Sem.run_bind, Sem.run_pure, Result.andThen_ok, e0]
    simp [newRow, newObj, Sem.run, World.alloc_eq]
  · have hne : ¬ (m * (sz + 1) = 0) := by
      intro h0
      rcases Nat.mul_eq_zero.1 h0 with h0 | h0 <;> omega
    simp only [if_neg hne, Sem.run_bind, run_zeroValue hz0, Result.andThen_ok, Sem.run_pure]
    have : ((Array.range (m * (sz + 1))).map (v0.cells[· % v0.cells.size]!)) = (List.replicate m v0.cells.toList).flatten.toArray := by
      rw [← hzr]; simp only [hvsz, Array.toArray_toList]
    rw [this]
    simp [newRow, newObj, Sem.run, World.alloc_eq]

theorem p_mkS (R : Rel C A K S a w) {t e : TypeId} {sz b : Nat} {zs : List AV} {l c : Operand} (ho : o.op = .makeSlice t l c) (ht : C.E.P.underlying t = some (.slice e)) (hsz : sizeOfT C.E.P e = some (sz + 1)) (hb : bytesOfT C.E.P e = some (b + 1))
    (hz : (zeroOfT C.E.P e).bind zeroCellsOf = some zs) (hzl : zs.length = sz + 1) (h : pureV (evalO S.s) (.mkS zs (b + 1) l c) = some r) : PureOk C A K S a w o r := by
  have hl := R.eval l
  have hc := R.eval c
  simp only [pureV] at h
  split at h <;> first | (cases h; done) | skip
  rename_i n m h1 h2
  rw [h1] at hl
  rw [h2] at hc
  cases hb' : (decide (0 ≤ n) && (decide (n = m) && decide (n.toNat * (b + 1) ≤ 140737488355328)))
  · simp [hb'] at h
  · simp only [hb', cond_true, Option.some.injEq] at h
    subst h
    simp only [Bool.and_eq_true, decide_eq_true_eq] at hb'
    obtain ⟨hn0, rfl, hle⟩ := hb'
    obtain ⟨n, rfl⟩ : ∃ k : Nat, n = k := ⟨n.toNat, by omega⟩
    simp only [Int.toNat_natCast] at hle ⊢
    cases hz0 : zeroOfT C.E.P e with
    | none => simp [hz0] at hz
    | some v0 =>
      simp only [hz0, Option.bind_some] at hz
      have hrz := zero_cells (E := C.E) (N := Still C A K S.l w) (w := w) hz
      have hvsz : v0.cells.size = sz + 1 := by have := hrz.1; simp at this; omega
      have hrep := hrz.flatten_rep n
      have hnew := newSl R (ext := []) (e := e) (Nat.le_refl n) hrep
      simp only [List.append_nil] at hnew
      refine ⟨_, _, ?_, Grew.alloc w _, hnew⟩
      simp only [execOp, ho, vrep_int hl, vrep_int hc]
      exact run_v (run_mk ht hsz hb hz0 hvsz (Nat.le_refl n) hle w)

theorem p_bslV (R : Rel C A K S a w) {t e : TypeId} {n sz : Nat} {parts : Array (Nat × Operand)} {zs : List AV} (ho : o.op = .buildSlice t n parts)
    (ht : C.E.P.underlying t = some (.slice e)) (hsz : sizeOfT C.E.P e = some (sz + 1)) (hz : (zeroOfT C.E.P e).bind zeroCellsOf = some zs) (hzl : zs.length = sz + 1) (hle : n * (sz + 1) ≤ 16777216)
    (h : pureV (evalO S.s) (.bsl n zs (rowParts (sz + 1) parts.toList)) = some r) : PureOk C A K S a w o r := by
  simp only [pureV] at h
  cases hf : fillV (evalO S.s) (rowParts (sz + 1) parts.toList) (zrep zs n) with
  | none => simp [hf] at h
  | some cs =>
    simp only [hf, Option.some.injEq] at h
    subst h
    obtain ⟨l', hr, hrun⟩ := p_bsl R ho ht hsz hz hzl hle hf
    have hnew := newSl R (ext := []) (e := e) (Nat.le_refl n) hr
    simp only [List.append_nil] at hnew
    exact ⟨_, _, hrun, Grew.alloc w _, hnew⟩

theorem evalL_len (ρ : Operand → AV) : ∀ l : List Operand, (evalL ρ l).length = l.length
  | [] => rfl
  | x :: r => by simp [evalL, evalL_len ρ r]
theorem evalL_get (ρ : Operand → AV) : ∀ (l : List Operand) (j : Nat) (h : j < (evalL ρ l).length), (evalL ρ l)[j] = ρ (l[j]'(by rw [← evalL_len ρ l]; exact h))
  | [], j, h => by simp [evalL] at h
  | x :: r, 0, h => rfl
  | x :: r, j + 1, h => by simpa [evalL] using evalL_get ρ r j (by simpa [evalL] using h)

theorem VRep.v1 {E : Env} {np : Nat} {w : World} {N : Nat → Prop} {A K : Nat → Nat} {x : AV} {v : Value} (h : VRep E np w N A K x v) (h1 : ∀ l, x ≠ .tp l) (h2 : ∀ f c l, x ≠ .fn f (c :: l)) : V1 E np w N A K x v := by
  cases h with
  | one h => exact h
  | tp l vs hl h => exact absurd rfl (h1 l)
  | fn f l vs hl h =>
    cases l with
    | nil =>
      have : vs = [] := by cases vs <;> simp_all
      subst this; exact .fn f
    | cons c l => exact absurd rfl (h2 f c l)

theorem allPlain_get : ∀ {l : List AV}, allPlain l = true → ∀ j (h : j < l.length), plain l[j] = true
  | [], _, j, h => by simp at h
  | x :: r, hp, j, h => by
    simp only [allPlain, Bool.and_eq_true] at hp
    cases j with
    | zero => exact hp.1
    | succ j => exact allPlain_get hp.2 j (by simpa using h)

theorem VRep.ofPlain {E : Env} {np : Nat} {w : World} {N : Nat → Prop} {A K : Nat → Nat} {x : AV} {v : Value} (h : VRep E np w N A K x v) (hp : plain x = true) : V1 E np w N A K x v :=
  h.v1 (fun l e => by subst e; cases hp) (fun f c l e => by subst e; cases hp)

theorem p_mkfn (R : Rel C A K S a w) {f : Nat} {first caps : Array Operand} (ho : o.op = .makeFunc (.func f) first caps) (hf : first.isEmpty = true)
    (h : pureV (evalO S.s) (.mkfn f caps.toList) = some r) : PureOk C A K S a w o r := by
  have : first = #[] := by simpa using hf
  subst this
  simp only [pureV] at h
  cases hpl : allPlain (evalL (evalO S.s) caps.toList)
  · simp [hpl] at h
  · simp only [hpl, cond_true] at h
    cases h
    refine PureOk.of (v := .func (.func f) #[] (caps.toList.map a.eval).toArray) ?_ (.fn f _ _ (by simp [evalL_len]) fun j h1 h2 => ?_)
    · simp only [execOp, ho]
      refine run_v ?_
      simp [Instr.makeFunc]
      apply Array.ext'
      simp
    · have := R.eval (caps.toList[j]'(by simpa [evalL_len] using h1))
      rw [evalL_get]
      simp only [List.getElem_map]
      refine this.ofPlain ?_
      rw [← evalL_get _ _ _ h1]
      exact allPlain_get hpl j h1

theorem run_builtin {P : Program} {c : Call} {bi : Builtin} (ho : o.op = .call c) (hcal : c.callee = .builtin bi) :
    execOp a.eval o = builtin bi c.argTypes o.type (c.args.map fun | .const _ => true | _ => false) (c.args.map a.eval) := by
  simp only [execOp, ho, resolve, hcal]
  rfl

theorem args_one {c : Call} {x : Operand} (h : c.args.toList = [x]) : c.args.map a.eval = #[a.eval x] := by
  rw [← Array.toArray_toList (xs := c.args), h]; simp

theorem p_len (R : Rel C A K S a w) {c : Call} {x : Operand} {t e : TypeId} (ho : o.op = .call c) (hcal : c.callee = .builtin .len) (hargs : c.args.toList = [x]) (h0 : c.argTypes[0]? = some t)
    (ht : C.E.P.underlying t = some (.slice e)) (h : pureV (evalO S.s) (.len false x) = some r) : PureOk C A K S a w o r := by
  have hx := R.eval x
  have hsl : ∀ base n c', a.eval x = .slice base n c' → (execOp a.eval o).run C.E.P w = .ok (.value (.int .i64 n)) w := by
    intro base n c' hv
    rw [run_builtin (P := C.E.P) ho hcal, args_one hargs, hv]
    simp only [builtin]
    refine run_v ?_
    simp [Builtin.len_, h0, run_underlying ht, goInt]
  simp only [pureV] at h
  split at h <;> first | (cases h; done) | skip
  · rename_i cs n hX
    rw [hX] at hx
    cases h
    obtain ⟨base, c', f, hv, _⟩ := vrep_sl hx
    exact PureOk.of (hsl _ _ _ hv) (.one (.flat (.i _ _)))
  · rename_i d o' n sz hX
    rw [hX] at hx
    cases h
    obtain ⟨base, c', hv, _⟩ := vrep_rs hx
    exact PureOk.of (hsl _ _ _ hv) (.one (.flat (.i _ _)))
  · rename_i hX
    rw [hX] at hx
    cases h
    obtain ⟨base, hv⟩ := vrep_z hx
    exact PureOk.of (hsl _ 0 _ hv) (.one (.flat (.i _ _)))

theorem p_lenS (R : Rel C A K S a w) {c : Call} {x : Operand} {t : TypeId} (ho : o.op = .call c) (hcal : c.callee = .builtin .len) (hargs : c.args.toList = [x]) (h0 : c.argTypes[0]? = some t)
    (ht : C.E.P.underlying t = some .string) (h : pureV (evalO S.s) (.len true x) = some r) : PureOk C A K S a w o r := by
  have hx := R.eval x
  simp only [pureV] at h
  split at h <;> first | (cases h; done) | skip
  rename_i s hX
  rw [hX] at hx
  cases h
  refine PureOk.of (v := .int .i64 s.size) ?_ (.one (.flat (.i _ _)))
  rw [run_builtin (P := C.E.P) ho hcal, args_one hargs, vrep_str hx]
  simp only [builtin]
  refine run_v ?_
  simp [Builtin.len_, h0, run_underlying ht, goInt]

theorem max_sound {P : Program} {np : Nat} {N : Nat → Prop} : ∀ (l : List AV) (vs : List Value) (x : AV) (v : Value), VRep C.E np w N A K x v → (l.length = vs.length ∧ ∀ j (h1 : j < l.length) (h2 : j < vs.length), VRep C.E np w N A K l[j] vs[j]) →
    maxV x l = some r → ∃ u, (vs.foldlM Builtin.max2 v).run P w = .ok u w ∧ VRep C.E np w N A K r u
  | [], [], x, v, hx, _, h => by cases h; exact ⟨v, by simp, hx⟩
  | [], _ :: _, _, _, _, hl, _ => by simp at hl
  | _ :: _, [], _, _, _, hl, _ => by simp at hl
  | y :: l, u :: vs, x, v, hx, hl, h => by
    have hy := hl.2 0 (by simp) (by simp)
    simp only [List.getElem_cons_zero] at hy
    have hrest : l.length = vs.length ∧ ∀ j (h1 : j < l.length) (h2 : j < vs.length), VRep C.E np w N A K l[j] vs[j] :=
      ⟨by simpa using hl.1, fun j h1 h2 => by have := hl.2 (j + 1) (by simpa using h1) (by simpa using h2); simpa using this⟩
    unfold maxV at h
    split at h <;> first | (cases h; done) | skip
    · rename_i hh; cases hh
    · rename_i k p k' c r' e1
      cases e1
      by_cases hk : k = k'
      · subst hk
        simp only [decide_true, cond_true] at h
        have e1 := vrep_int hx
        have e2 := vrep_int hy
        subst e1; subst e2
        obtain ⟨z, hz, hr⟩ := max_sound l vs _ (.int k (if c > p then c else p)) (.one (.flat (.i _ _))) hrest h
        refine ⟨z, ?_, hr⟩
        rw [List.foldlM_cons, Sem.run_bind]
        simp only [Builtin.max2, Sem.run_pure, Result.andThen_ok]
        exact hz
      · simp [hk] at h

theorem min_sound {P : Program} {np : Nat} {N : Nat → Prop} : ∀ (l : List AV) (vs : List Value) (x : AV) (v : Value), VRep C.E np w N A K x v → (l.length = vs.length ∧ ∀ j (h1 : j < l.length) (h2 : j < vs.length), VRep C.E np w N A K l[j] vs[j]) →
    minV x l = some r → ∃ u, (vs.foldlM Builtin.min2 v).run P w = .ok u w ∧ VRep C.E np w N A K r u
  | [], [], x, v, hx, _, h => by cases h; exact ⟨v, by simp, hx⟩
  | [], _ :: _, _, _, _, hl, _ => by simp at hl
  | _ :: _, [], _, _, _, hl, _ => by simp at hl
  | y :: l, u :: vs, x, v, hx, hl, h => by
    have hy := hl.2 0 (by simp) (by simp)
    simp only [List.getElem_cons_zero] at hy
    have hrest : l.length = vs.length ∧ ∀ j (h1 : j < l.length) (h2 : j < vs.length), VRep C.E np w N A K l[j] vs[j] :=
      ⟨by simpa using hl.1, fun j h1 h2 => by have := hl.2 (j + 1) (by simpa using h1) (by simpa using h2); simpa using this⟩
    unfold minV at h
    split at h <;> first | (cases h; done) | skip
    · rename_i hh; cases hh
    · rename_i k p k' c r' e1
      cases e1
      by_cases hk : k = k'
      · subst hk
        simp only [decide_true, cond_true] at h
        have e1 := vrep_int hx
        have e2 := vrep_int hy
        subst e1; subst e2
        obtain ⟨z, hz, hr⟩ := min_sound l vs _ (.int k (if c < p then c else p)) (.one (.flat (.i _ _))) hrest h
        refine ⟨z, ?_, hr⟩
        rw [List.foldlM_cons, Sem.run_bind]
        simp only [Builtin.min2, Sem.run_pure, Result.andThen_ok]
        exact hz
      · simp [hk] at h

theorem p_mx (R : Rel C A K S a w) {c : Call} (ho : o.op = .call c) (hcal : c.callee = .builtin .max) (h : pureV (evalO S.s) (.mx c.args.toList) = some r) : PureOk C A K S a w o r := by
  simp only [pureV] at h
  cases hl : c.args.toList with
  | nil => simp [hl, evalL] at h
  | cons x l =>
    simp only [hl, evalL] at h
    obtain ⟨u, hu, hr⟩ := max_sound (P := C.E.P) (np := C.np) (N := Still C A K S.l w) (evalL (evalO S.s) l) (l.map a.eval) _ _ (R.eval x)
      ⟨by simp [evalL_len], fun j h1 h2 => by rw [evalL_get]; simpa using R.eval _⟩ h
    refine PureOk.of (v := u) ?_ hr
    rw [run_builtin (P := C.E.P) ho hcal]
    simp only [builtin]
    refine run_v ?_
    simp [Builtin.max_, hl, hu]

theorem p_mn (R : Rel C A K S a w) {c : Call} (ho : o.op = .call c) (hcal : c.callee = .builtin .min) (h : pureV (evalO S.s) (.mn c.args.toList) = some r) : PureOk C A K S a w o r := by
  simp only [pureV] at h
  cases hl : c.args.toList with
  | nil => simp [hl, evalL] at h
  | cons x l =>
    simp only [hl, evalL] at h
    obtain ⟨u, hu, hr⟩ := min_sound (P := C.E.P) (np := C.np) (N := Still C A K S.l w) (evalL (evalO S.s) l) (l.map a.eval) _ _ (R.eval x)
      ⟨by simp [evalL_len], fun j h1 h2 => by rw [evalL_get]; simpa using R.eval _⟩ h
    refine PureOk.of (v := u) ?_ hr
    rw [run_builtin (P := C.E.P) ho hcal]
    simp only [builtin]
    refine run_v ?_
    simp [Builtin.min_, hl, hu]

theorem p_nilChk (R : Rel C A K S a w) {x : Operand} (ho : o.op = .nilCheck x) (h : pureV (evalO S.s) (.nilChk x) = some r) : PureOk C A K S a w o r := by
  have hx := R.eval x
  have main : ∀ v, a.eval x = v → (v ≠ .pointer none ∧ v ≠ .nilIface ∧ v ≠ .nilFunc ∧ ∀ n f c, v ≠ .func (.method n) f c) → (execOp a.eval o).run C.E.P w = .ok (.value v) w := by
    intro v hv hne
    simp only [execOp, ho, hv]
    obtain ⟨h1, h2, h3, h4⟩ := hne
    cases v <;> first | rfl | (exact absurd rfl h2) | (exact absurd rfl h3) | skip
    · rename_i ad; cases ad <;> first | rfl | (exact absurd rfl h1)
    · rename_i fn f c; cases fn <;> first | rfl | (exact absurd rfl (h4 _ _ _))
  simp only [pureV] at h
  split at h <;> first | (cases h; done) | skip
  all_goals (rename_i hX; rw [hX] at hx; cases h)
  · exact PureOk.of (main _ (vrep_rf hx) (by simp)) (.one (.rf _ _))
  · obtain ⟨blk, off, f, hv, _⟩ := vrep_el hx
    exact PureOk.of (main _ hv (by simp)) (by rw [← hv]; exact hx)
  · exact PureOk.of (main _ (vrep_gl hx) (by simp)) (.one (.gl _))
  · obtain ⟨vs, hv, _⟩ := vrep_fn hx
    exact PureOk.of (main _ hv (by simp)) (by rw [← hv]; exact hx)

theorem p_tas {sents : List Nat} (hE : EnvOk C.E sents) (R : Rel C A K S a w) {x : Operand} {xt t e : TypeId} (ho : o.op = .typeAssert x xt t true) (ht : C.E.P.underlying t = some (.pointer e)) (hz : zeroOfT C.E.P t = some (.pointer none)) (hT : t ≠ C.E.T)
    (h : pureV (evalO S.s) (.tas .np x) = some r) : PureOk C A K S a w o r := by
  have hx := R.eval x
  have hres : VRep C.E C.np w (Still C A K S.l w) A K (.tp [.np, .b false]) (.tuple [.pointer none, .bool false].toArray) := .tp _ _ rfl fun j h1 h2 => by
    match j with
    | 0 => exact .flat .np
    | 1 => exact .flat (.b _)
    | j + 2 => simp at h1; omega
  simp only [pureV] at h
  split at h <;> first | (cases h; done) | skip
  all_goals (rename_i hX; rw [hX] at hx; cases h)
  · obtain ⟨b, _, hv⟩ := vrep_er hx
    refine PureOk.of ?_ hres
    simp only [execOp, ho, hv, Env.errV]
    refine run_v ?_
    have hne : ¬ (C.E.T = t) := fun e => hT e.symm
    simp [Instr.typeAssert, run_underlying ht, hne, run_zeroValue hz]
  · refine PureOk.of ?_ hres
    simp only [execOp, ho, vrep_nl hx]
    refine run_v ?_
    simp [Instr.typeAssert, run_underlying ht, run_zeroValue hz]


theorem idx_of {x : AV} {n : Nat} {E : Env} {np : Nat} {N : Nat → Prop} {v : Value} (h : idx x = some n) (hv : VRep E np w N A K x v) : ∃ k, v = .int k n := by
  unfold idx at h
  split at h <;> first | (cases h; done) | skip
  rename_i k m
  by_cases hm : 0 ≤ m
  · simp only [hm, decide_true, cond_true, Option.some.injEq] at h
    subst h
    exact ⟨k, by rw [vrep_int hv]; congr 1; omega⟩
  · simp [hm] at h

theorem run_bound {P : Program} {k : IntKind} {n y : Nat} (code : BoundsCode) (h : n ≤ y) : (Instr.sliceBound (.int k n) y code).run P w = .ok n w := by
  have : (n : Int) ≤ (y : Int) := by omega
  simp [Instr.sliceBound, asIntOf, this]

/-- The bounds of a slice of two. -/
theorem run_bounds {P : Program} {isSlice : Bool} {len cap l h : Nat} {lo hi : Option Value} (hlo : (lo = none ∧ l = 0) ∨ ∃ k, lo = some (.int k l)) (hhi : (hi = none ∧ h = len) ∨ ∃ k, hi = some (.int k h)) (h1 : l ≤ h) (h2 : h ≤ cap) :
    (Instr.sliceBounds isSlice len cap lo hi none).run P w = .ok (l, h, cap) w := by
  rcases hlo with ⟨rfl, rfl⟩ | ⟨k, rfl⟩ <;> rcases hhi with ⟨rfl, rfl⟩ | ⟨k', rfl⟩ <;> simp [Instr.sliceBounds, run_bound _ h1, run_bound _ h2]

theorem opt_idx {ρ : Operand → AV} {ev : Operand → Value} {E : Env} {np : Nat} {N : Nat → Prop} (hρ : ∀ x, VRep E np w N A K (ρ x) (ev x)) {x : Option Operand} {d n : Nat}
    (h : (match x.map ρ with | none => some d | some v => idx v) = some n) : (x.map ev = none ∧ n = d) ∨ ∃ k, x.map ev = some (.int k n) := by
  cases x with
  | none => simp only [Option.map_none, Option.some.injEq] at h; exact .inl ⟨rfl, h.symm⟩
  | some x =>
    simp only [Option.map_some] at h
    obtain ⟨k, hk⟩ := idx_of h (hρ x)
    exact .inr ⟨k, by simp [hk]⟩

theorem p_slcSl (R : Rel C A K S a w) {t e : TypeId} {sz : Nat} {x : Operand} {lo hi mx : Option Operand} (ho : o.op = .slice t x lo hi mx) (ht : C.E.P.underlying t = some (.slice e)) (hz : sizeOfT C.E.P e = some (sz + 1))
    (h : pureV (evalO S.s) (.slc (sz + 1) x lo hi mx) = some r) : PureOk C A K S a w o r := by
  have hx := R.eval x
  obtain ⟨i, hi', hiz⟩ := size_info hz
  simp only [pureV, slcV] at h
  have ev : ∀ v, (Instr.sliceAt t (a.eval x) (lo.map a.eval) (hi.map a.eval) (mx.map a.eval)).run C.E.P w = .ok v w → (execOp a.eval o).run C.E.P w = .ok (.value v) w := fun v hv => by
    simp only [execOp, ho]; exact run_v hv
  have main : ∀ (base : Option Addr) (n c l h : Nat), a.eval x = .slice base n c → mx = none → (lo.map a.eval = none ∧ l = 0 ∨ ∃ k, lo.map a.eval = some (.int k l)) → (hi.map a.eval = none ∧ h = n ∨ ∃ k, hi.map a.eval = some (.int k h)) → l ≤ h → h ≤ c →
      (execOp a.eval o).run C.E.P w = .ok (.value (.slice (if c = l then base else base.map (·.add (l * (sz + 1)))) (h - l) (c - l))) w := by
    intro base n c l h hv hmx h1 h2 h3 h4
    refine ev _ ?_
    simp only [hv, hmx, Option.map_none]
    simp only [Instr.sliceAt, Sem.run_bind, run_underlying ht, Result.andThen_ok, Instr.slice, run_bounds h1 h2 h3 h4, Go.sizeOf, run_typeInfo hi', Sem.run_pure, hiz]
  split at h
  · -- three bounds: nothing, without room
    rename_i m hm
    split at h <;> first | (cases h; done) | skip
    rename_i h' q1 q2 q3
    cases hmx : mx with
    | none => simp [hmx] at hm
    | some y =>
      simp only [hmx, Option.map_some, Option.some.injEq] at hm
      subst hm
      obtain ⟨k3, e3⟩ := idx_of q3 (R.eval y)
      have hh : ∃ z, hi = some z ∧ evalO S.s z = h' := by
        cases hi with
        | none => simp at q2
        | some z => exact ⟨z, rfl, by simpa using q2⟩
      obtain ⟨z, rfl, rfl⟩ := hh
      have res : ∀ (base : Option Addr) (n c : Nat), a.eval x = .slice base n c → n ≤ c → idx (evalO S.s z) = some 0 → PureOk C A K S a w o .z := by
        intro base n c hv hnc hz0
        obtain ⟨k2, e2⟩ := idx_of hz0 (R.eval z)
        have h0 := opt_idx (ρ := evalO S.s) (ev := a.eval) (fun x => R.eval x) (x := lo) (d := 0) (n := 0) q1
        refine PureOk.of (v := .slice base 0 0) (ev _ ?_) (.one (.flat (.z base)))
        simp only [hv, hmx, Option.map_some, e2, e3]
        have hb : (Instr.sliceBounds true n c (lo.map a.eval) (some (.int k2 (0 : Nat))) (some (.int k3 (0 : Nat)))).run C.E.P w = .ok (0, 0, 0) w := by
          rcases h0 with ⟨e0, _⟩ | ⟨k, e0⟩ <;> simp only [e0, Instr.sliceBounds, Sem.run_bind, Sem.run_pure, run_bound _ (Nat.zero_le _), Result.andThen_ok]
        simp only [Instr.sliceAt, Sem.run_bind, run_underlying ht, Result.andThen_ok, Instr.slice, hb, Go.sizeOf, run_typeInfo hi', Sem.run_pure, hiz]
        simp
      split at h <;> first | (cases h; done) | skip
      · rename_i hi0 hX
        cases h
        rw [hX] at hx
        obtain ⟨base, c, f, hv, hn, _⟩ := vrep_sl hx
        exact res _ _ _ hv hn hi0
      · rename_i hi0 hX
        cases h
        rw [hX] at hx
        obtain ⟨base, hv⟩ := vrep_z hx
        exact res _ _ _ hv (Nat.le_refl _) hi0
      · rename_i hi0 hX
        cases h
        rw [hX] at hx
        obtain ⟨base, c, hv, _, hn, _⟩ := vrep_rs hx
        exact res _ _ _ hv hn hi0
  · rename_i hm
    have hmx : mx = none := by cases mx <;> simp_all
    split at h
    · rename_i cs n hX
      rw [hX] at hx
      obtain ⟨base, c, f, hv, hn, h0, h1⟩ := vrep_sl hx
      split at h <;> first | (cases h; done) | skip
      rename_i l h' q1 q2
      cases hb : (Nat.ble l h' && Nat.ble h' n)
      · simp [hb] at h
      · simp only [hb, cond_true, Option.some.injEq] at h
        subst h
        simp only [Bool.and_eq_true, Nat.ble_eq] at hb
        obtain ⟨b1, b2⟩ := hb
        refine PureOk.of (main base n c l h' hv hmx (opt_idx (fun x => R.eval x) q1) (opt_idx (fun x => R.eval x) q2) b1 (by omega)) (.one (.flat (.sl _ _ _ _ (fun j => f (l * (sz + 1) + j)) (by omega) ?_ fun j hj => ?_)))
        · rcases h0 with rfl | ⟨blk, off, rfl, hN, hc⟩
          · left; simp
          · by_cases hcl : c = l
            · left
              have : h' - l = 0 := by omega
              simp [this]
            · right
              refine ⟨blk, off + l * (sz + 1), ?_, hN, fun j hj => ?_⟩
              · rw [if_neg hcl]; simp [Addr.add_mid]
              · simp only [List.length_take, List.length_drop] at hj
                have := hc (l * (sz + 1) + j) (by omega)
                rw [← this, Nat.add_assoc]
        · simp only [List.length_take, List.length_drop] at hj
          simp only [List.getElem_take, List.getElem_drop]
          exact h1 _ _
    · rename_i hX
      rw [hX] at hx
      obtain ⟨base, hv⟩ := vrep_z hx
      split at h <;> first | (cases h; done) | skip
      rename_i q1 q2
      cases h
      refine PureOk.of (main base 0 0 0 0 hv hmx (opt_idx (fun x => R.eval x) q1) (opt_idx (fun x => R.eval x) q2) (Nat.le_refl _) (Nat.le_refl _)) (.one (.flat (.z _)))
    · rename_i d off n sz' hX
      rw [hX] at hx
      obtain ⟨base, c, hv, hnp, hn, hk, hb0⟩ := vrep_rs hx
      split at h <;> first | (cases h; done) | skip
      rename_i l h' q1 q2
      cases hb : (Nat.beq (sz + 1) sz' && Nat.ble l h' && Nat.ble h' n && Nat.blt l n)
      · simp [hb] at h
      · simp only [hb, cond_true, Option.some.injEq] at h
        subst h
        simp only [Bool.and_eq_true, Nat.ble_eq, Nat.blt_eq, Nat.beq_eq] at hb
        obtain ⟨⟨⟨rfl, b1⟩, b2⟩, b3⟩ := hb
        have hcl : ¬ c = l := by omega
        have hmul : (l * (sz + 1)) + (c - l) * (sz + 1) = c * (sz + 1) := by rw [← Nat.add_mul]; congr 1; omega
        refine PureOk.of (main base n c l h' hv hmx (opt_idx (fun x => R.eval x) q1) (opt_idx (fun x => R.eval x) q2) b1 (by omega)) (.one (.rs _ _ _ _ _ _ hnp (by omega) (by omega) fun hK => ?_))
        rw [if_neg hcl, hb0 hK]; simp [Addr.add_mid]
    · cases h


/-- ALL PURE OPERATIONS. -/
theorem pure_sound {sents : List Nat} {ann : Ann} (hE : EnvOk C.E sents) (R : Rel C A K S a w) {ao : AOp} (hc : cOp C.E.P C.E.T sents ann o = some ao) (hng : ∀ g, ao ≠ .ldg g) (h : pureV (evalO S.s) ao = some r) : PureOk C A K S a w o r := by
  unfold cOp at hc
  split at hc
  case _ x ho => cases hc; exact p_move R (.inl ho) h
  case _ x ho =>
    split at hc <;> first | (cases hc; done) | skip
    · split at hc
      · cases hc; cases h
      · cases hc; exact p_move R (.inr ho) h
    · cases hc; exact p_move R (.inr ho) h
  case _ c x y ho => cases hc; exact p_pick R ho h
  case _ op t x y u ho => cases hc; exact p_bin hE R ho h
  case _ op t x ho => cases hc; exact p_un R ho h
  case _ s d x ho =>
    split at hc <;> first | (cases hc; done) | skip
    rename_i h1 h2
    cases hc; exact p_conv R ho h1 h2 h
  case _ s x f ho =>
    split at hc <;> first | (cases hc; done) | skip
    rename_i fs h1
    split at hc <;> first | (cases hc; done) | skip
    rename_i fd h2
    split at hc <;> first | (cases hc; done) | skip
    rename_i n h3
    cases hc; exact p_addr R ho h1 h2 h3 h
  case _ t x i ho =>
    split at hc <;> first | (cases hc; done) | skip
    · rename_i len e h1
      split at hc <;> first | (cases hc; done) | skip
      rename_i sz h2
      cases hc; exact p_ixA R ho h1 h2 h
    · rename_i e h1
      split at hc <;> first | (cases hc; done) | skip
      rename_i sz h2
      cases hc; exact p_ixS R ho h1 h2 h
  case _ t x f ho =>
    split at hc <;> first | (cases hc; done) | skip
    rename_i fs h1
    split at hc <;> first | (cases hc; done) | skip
    rename_i fd h2
    split at hc <;> first | (cases hc; done) | skip
    rename_i m h3
    cases hc; exact p_fld R ho h1 h2 h3 h
  case _ t x i ho =>
    split at hc <;> first | (cases hc; done) | skip
    · rename_i len e h1
      split at hc <;> first | (cases hc; done) | skip
      rename_i sz m h2 h3
      cases hc; exact p_ixV R ho h1 h2 h3 h
    · rename_i h1
      cases hc; exact p_ixStr R ho h1 h
  case _ x j ho => cases hc; exact p_ext R ho h
  case _ t parts ho =>
    split at hc <;> first | (cases hc; done) | skip
    · rename_i fs v h1 h2
      split at hc <;> first | (cases hc; done) | skip
      rename_i zs ps h3 h4 h5
      cases hc; exact p_buildStruct R ho h1 h2 h3 h4 h5 h
    · rename_i len e v h1 h2
      split at hc <;> first | (cases hc; done) | skip
      rename_i sz zs h3 h4
      cases hc; exact p_buildArr R ho h1 h2 h3 h4 h
  case _ t n parts ho =>
    split at hc <;> first | (cases hc; done) | skip
    rename_i e h1
    split at hc <;> first | (cases hc; done) | skip
    rename_i sz zs h2 h3
    cases hb : (Nat.beq zs.length (sz + 1) && Nat.ble (n * (sz + 1)) 16777216)
    · simp [hb] at hc
    · simp only [hb, cond_true] at hc
      simp only [Bool.and_eq_true, Nat.beq_eq, Nat.ble_eq] at hb
      split at hc
      · cases hc; cases h
      · cases hc; exact p_bslV R ho (isSliceT_of h1) h2 h3 hb.1 hb.2 h
  case _ t l c ho =>
    split at hc <;> first | (cases hc; done) | skip
    rename_i e h1
    split at hc <;> first | (cases hc; done) | skip
    rename_i sz b zs h2 h3 h4
    cases hb : (Nat.beq zs.length (sz + 1))
    · simp [hb] at hc
    · simp only [hb, cond_true] at hc
      simp only [Nat.beq_eq] at hb
      split at hc
      · cases hc; cases h
      · cases hc; exact p_mkS R ho (isSliceT_of h1) h2 h3 h4 hb h
  case _ f first caps ho =>
    cases hb : first.isEmpty
    · simp [hb] at hc
    · simp only [hb, cond_true] at hc
      cases hc; exact p_mkfn R ho hb h
  case _ x ho => cases hc; exact p_nilChk R ho h
  case _ x xt t ho =>
    split at hc <;> first | (cases hc; done) | skip
    rename_i e h1
    cases hb : Nat.beq t C.E.T
    · simp only [hb, cond_false] at hc
      split at hc <;> first | (cases hc; done) | skip
      rename_i h2
      cases hc
      exact p_tas hE R ho h1 h2 (fun e => by subst e; rw [Nat.beq_refl] at hb; cases hb) h
    · simp [hb] at hc
  case _ t x lo hi mx ho =>
    split at hc <;> first | (cases hc; done) | skip
    rename_i e h1
    split at hc <;> first | (cases hc; done) | skip
    rename_i sz h2
    cases hc; exact p_slcSl R ho h1 h2 h
  case _ t x ho =>
    split at hc <;> first | (cases hc; done) | skip
    cases x with
    | global g =>
      simp only at hc
      cases hb : memb sents g
      · simp [hb] at hc
      · simp only [hb, cond_true] at hc
        split at hc <;> cases hc
        exact absurd rfl (hng g)
    | _ => cases hc; cases h
  case _ t x v ho => split at hc <;> cases hc; cases h
  case _ e v ho => split at hc <;> cases hc; cases h
  case _ e ho => split at hc <;> cases hc; cases h
  case _ c ho =>
    unfold cCall at hc
    split at hc
    · split at hc <;> cases hc <;> cases h
    · rename_i hcal
      split at hc <;> first | (cases hc; done) | skip
      · rename_i x e h1 h2
        cases hc
        cases h0 : c.argTypes[0]? with
        | none => simp [h0] at h2
        | some t => exact p_len R ho hcal h1 h0 (by simpa [h0] using h2) h
      · rename_i x h1 h2
        cases hc
        cases h0 : c.argTypes[0]? with
        | none => simp [h0] at h2
        | some t => exact p_lenS R ho hcal h1 h0 (by simpa [h0] using h2) h
    · rename_i hcal; cases hc; exact p_mx R ho hcal h
    · rename_i hcal; cases hc; exact p_mn R ho hcal h
    · repeat' (split at hc <;> first | (cases hc; done) | skip)
      simp only [Bool.cond_eq_ite] at hc
      split at hc <;> first | (cases hc; done) | skip
      cases hc; cases h
    · cases hc
  case _ => cases hc

end
end Zab
