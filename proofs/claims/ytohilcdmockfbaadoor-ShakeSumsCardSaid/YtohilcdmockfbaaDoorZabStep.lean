/- One operation. No statement of the program stands here. -/
import Derived.Test.YtohilcdmockfbaaDoorZabCal4
import Derived.Test.YtohilcdmockfbaaDoorZabInv
namespace Zab
open Go
set_option linter.unusedSimpArgs false
set_option linter.unusedVariables false

section
variable {C : Ctx} {A K : Nat → Nat} {S : St} {a : Act} {w : World} {o : Oper}

theorem run_enter {P : Program} {f : FuncId} {fn : Func} {c : Code} (hf : P.funcs[f]? = some fn) (hname : (fn.name == "runtime.NumGoroutine") = false) (hb : fn.body = some c) (args : Array Value) (w : World) :
    (callFunc f args).run P w = .ok (.enter f args) w := by
  have h1 : fn.name ≠ "runtime.NumGoroutine" := by simpa using hname
  simp [callFunc, program, Sem.run, hf, h1, hb]

theorem toArgs_of {l : List (Nat × List AV)} : ∀ {xs vs : List AV}, toArgs l xs = some vs → lends l xs = some (vs, [])
  | [], vs, h => by simp only [toArgs, Option.some.injEq] at h; subst h; rfl
  | x :: r, vs, h => by
    simp only [toArgs] at h
    cases hx : toArg l x with
    | none => simp [hx] at h
    | some v =>
      cases hr : toArgs l r with
      | none => simp [hx, hr] at h
      | some us =>
        simp only [hx, hr, Option.some.injEq] at h
        subst h
        have ih := toArgs_of hr
        unfold lends
        split
        · rename_i hh; cases hh
        · rename_i d r' hh
          cases hh
          simp [toArg] at hx
        · rename_i x' r' _ hh
          cases hh
          simp [hx, ih]

theorem seesNil : ∀ (as : List AV), seesAny [] as = false
  | [] => rfl
  | x :: r => by cases x <;> simp [seesAny, memb, seesNil r]

/-- A call, met. -/
theorem call_sound {call : CallF} (hC : CallSound C.E call) (R : Rel C A K S a w) {c : Call} {f : Operand} (ho : o.op = .call c) (hcal : c.callee = .value f) {fid : Nat} {caps : List AV} (hf : evalO S.s f = .fn fid caps)
    {vs : List AV} {ds : List Nat} (hl : lends S.l (evalL (evalO S.s) c.args.toList ++ caps) = some (vs, ds)) (hs : seesAny ds (evalL (evalO S.s) c.args.toList ++ caps) = false) {r : Ret} (hr : call fid vs = some r)
    (hbare : anyRs (evalL (evalO S.s) c.args.toList ++ caps) = true → hasSl r.v = false ∧ hasSlLL r.lent = false) {l' : List (Nat × List AV)} (hput : putAll S.l ds r.lent = some l')
    {Kn : Act → World → Prop} {Q : Exit → Act → World → Prop}
    (h : ∀ (nt : Nat) (A' K' : Nat → Nat) (S' : St) (a' : Act) (w' : World) (raws rs : List AV) (cvs : List Value), Back C A K S a w (evalL (evalO S.s) c.args.toList ++ caps) vs ds nt A' K' S' a' w' r.lent l' → raws.length = cvs.length →
      (∀ j (h1 : j < raws.length) (h2 : j < cvs.length), VRep C.E vs.length w' (Still (calC C A K S.l w (evalL (evalO S.s) c.args.toList ++ caps) ds vs.length nt) A' K' S'.l w') A' K' raws[j] cvs[j]) →
      toRets vs.length S'.l raws raws = some rs → r.v = one rs → Kn (a.put o.dst (oneV cvs)) w') : o.wp C.E.P a w Kn Q := by
  obtain ⟨capsV, hfv, hcl, hcaps⟩ := vrep_fn (hf ▸ R.eval f)
  obtain ⟨fn, body, b1, b2, b3⟩ := hC.body fid vs r hr
  have hrun : (execOp a.eval o).run C.E.P w = .ok (.enter fid (c.args.toList.map a.eval ++ capsV).toArray) w := by
    simp only [execOp, ho, resolve, hcal, hfv, Deferred.ofValue, Sem.run_bind, Sem.run_pure, Result.andThen_ok, invoke]
    rw [run_enter b1 b2 b3]
    congr 2
    apply Array.ext'
    simp
  have hlen : (evalL (evalO S.s) c.args.toList ++ caps).length = (c.args.toList.map a.eval ++ capsV).length := by simp [evalL_len, hcl]
  have hvals : ∀ j (h1 : j < (evalL (evalO S.s) c.args.toList ++ caps).length) (h2 : j < (c.args.toList.map a.eval ++ capsV).length),
      VRep C.E C.np w (Still C A K S.l w) A K (evalL (evalO S.s) c.args.toList ++ caps)[j] (c.args.toList.map a.eval ++ capsV)[j] := by
    intro j h1 h2
    by_cases hj : j < (evalL (evalO S.s) c.args.toList).length
    · rw [List.getElem_append_left hj, List.getElem_append_left (by simpa [evalL_len] using hj), evalL_get]
      simpa using R.eval _
    · rw [List.getElem_append_right (by omega), List.getElem_append_right (by simp [evalL_len] at hj ⊢; omega)]
      have e1 : (evalL (evalO S.s) c.args.toList).length = (c.args.toList.map a.eval).length := by simp [evalL_len]
      simp only [← e1]
      exact .one (hcaps _ _ _)
  have hent := enter_rel R hlen hvals hl hs
  obtain ⟨e1, _⟩ := lends_of hl
  have hcalls := hC.calls fid vs r hr w (calM A K ds) (calX C A K S.l (evalL (evalO S.s) c.args.toList ++ caps) ds) (calA A (evalL (evalO S.s) c.args.toList ++ caps)) (calA K (evalL (evalO S.s) c.args.toList ++ caps)) _ hent (by simp [e1, evalL_len, hcl])
  unfold Oper.wp
  rw [hrun, Oper.upon_enter]
  refine hcalls.mono ?_
  rintro e w' ⟨cv, rfl, hout⟩
  obtain ⟨S', a', A', K', nt, raws, rs, cvs, o1, o2, o3, o4, o5, o6, rfl⟩ := hout.ex
  exact h nt A' K' S' a' w' raws rs cvs ⟨R, hl, o1, o5, hput, fun hany => (hbare hany).2⟩ o2 o3 o4 o6

/-- What the guard says. -/
theorem wants_sound (R : Rel C A K S a w) {ops : Array Oper} {g : Option (Nat × Bool)} (hg : cGuard ops o = some g) {b : Bool} (h : wants S.s g = some b) : Region.wanted o (yielded ops a.tmps) = b := by
  unfold cGuard at hg
  split at hg
  · rename_i h0
    cases hg
    simp only [wants, Option.some.injEq] at h
    subst h
    simp [Region.wanted, h0]
  · rename_i gi want h0
    split at hg <;> first | (cases hg; done) | skip
    rename_i p hp
    split at hg <;> first | (cases hg; done) | skip
    rename_i d hd
    cases hg
    have hy : yielded ops a.tmps gi = (match a.tmps[d]? with | some (.bool b) => some b | _ => none) := by
      unfold yielded
      rw [hp, Option.bind_some, hd, Option.bind_some]
      cases a.tmps[d]? with
      | none => rfl
      | some u => cases u <;> rfl
    simp only [Region.wanted, h0, hy]
    have hr := R.slot d
    simp only [wants] at h
    split at h
    · rename_i x hx
      rw [hx] at hr
      have hv := vrep_bool hr
      cases h
      rw [Array.getD_eq_getD_getElem?] at hv
      cases hq : a.tmps[d]? with
      | none => rw [hq] at hv; simp [undef] at hv
      | some u => rw [hq] at hv; simp only [Option.getD_some] at hv; subst hv; simp
    · cases h
    · rename_i hx hx2
      cases h
      have hnb : ∀ b, a.tmps.getD d undef ≠ .bool b := by
        intro b hb
        rw [hb] at hr
        generalize get S.s d = X at hr hx hx2
        cases hr with
        | one h1 => cases h1 with
          | flat h2 => cases h2; exact hx _ rfl
          | gone => exact hx2 rfl
      cases hq : a.tmps[d]? with
      | none => simp
      | some u =>
        have : u = a.tmps.getD d undef := by simp [Array.getD_eq_getD_getElem?, hq]
        cases u <;> first | (simp; done) | (rename_i b; exact absurd this.symm (hnb b))

/-- ONE OPERATION. -/
theorem step_sound {I : Info} (hI : I.P = C.E.P ∧ I.T = C.E.T ∧ I.np = C.np ∧ I.nt = C.nt) (hE : EnvOk C.E I.sents) {call : CallF} (hC : CallSound C.E call) (R : Rel C A K S a w) {ops : Array Oper} {i : Nat} (hi : ops[i]? = some o)
    {ao : AOper} (hc : cOper I ops o = some ao) {S' : St} (h : step call ao S = some S') {Kn : Act → World → Prop} {Q : Exit → Act → World → Prop} (hK : ∀ A' K' a' w', Rel C A' K' S' a' w' → Kn a' w') :
    wpOp C.E.P ops Q i Kn a w := by
  obtain ⟨hI1, hI2, hI3, hI4⟩ := hI
  unfold cOper at hc
  split at hc <;> first | (cases hc; done) | skip
  rename_i op g hop hg
  cases hd : dstOk I.np I.nt o op
  · simp [hd] at hc
  simp only [hd, cond_true, Option.some.injEq] at hc
  subst hc
  rw [hI1, hI2] at hop
  rw [hI3, hI4] at hd
  have hdst : ∀ d, o.dst = some d → d < C.nt ∧ (op.cls = 3 → C.np ≤ d) ∧ op.cls ≠ 2 := by
    intro d hd'
    unfold dstOk at hd
    rw [hd'] at hd
    simp only [Bool.and_eq_true, Nat.blt_eq, Bool.or_eq_true, Nat.ble_eq, Bool.not_eq_true'] at hd
    refine ⟨hd.1.1, fun e => ?_, fun e => ?_⟩
    · rcases hd.1.2 with h | h
      · exact h
      · rw [e] at h; simp at h
    · have := hd.2; rw [e] at this; simp at this
  unfold wpOp
  simp only [hi]
  unfold step at h
  split at h
  · rename_i hw
    rw [if_pos (wants_sound R hg hw)]
    left
    have pureCase : ∀ {r : AV}, PureOk C A K S a w o r → S' = S.putD o.dst r → o.wp C.E.P a w Kn Q := by
      rintro r ⟨v, w', h1, h2, h3⟩ rfl
      unfold Oper.wp
      rw [h1, Oper.upon_value]
      exact hK _ _ _ _ ((R.grew h2).putN (fun d hd' => (hdst d hd').1) h3)
    have kCase : KOk C a w o S' → o.wp C.E.P a w Kn Q := by
      rintro ⟨v, w', A', K', h1, h2⟩
      unfold Oper.wp
      rw [h1, Oper.upon_value]
      exact hK _ _ _ _ h2
    split at h
    · rename_i hcls
      simp only [Option.map_eq_some_iff] at h
      obtain ⟨r, hr, rfl⟩ := h
      by_cases hg : ∃ g, op = .ldg g
      · obtain ⟨g, rfl⟩ := hg
        obtain ⟨t, ho, hm, hgl⟩ := ldg_inv hop
        exact pureCase (load_sound (call := call) hE R ho hm (fun g' e => by cases e; exact hgl) hr) rfl
      · exact pureCase (pure_sound hE R hop (fun g e => hg ⟨g, e⟩) hr) rfl
    · rename_i hcls
      simp only [Option.map_eq_some_iff] at h
      obtain ⟨r, hr, rfl⟩ := h
      cases op <;> first | (cases hcls; done) | skip
      case load m x =>
        obtain ⟨t, ho, hm, hgl⟩ := load_inv hop
        exact pureCase (load_sound hE R ho hm hgl hr) rfl
      case call f xs =>
        obtain ⟨c, ho, hcal, rfl⟩ := call_inv hop
        simp only [readV] at hr
        split at hr <;> first | (cases hr; done) | skip
        rename_i fid hf
        cases hta : toArgs S.l (evalL (evalO S.s) c.args.toList) with
        | none => simp [hta] at hr
        | some vs =>
          simp only [hta] at hr
          split at hr <;> first | (cases hr; done) | skip
          rename_i r0 hcall
          simp only [Bool.cond_eq_ite] at hr
          split at hr <;> first | (cases hr; done) | skip
          rename_i hb
          have hl := toArgs_of hta
          have ha : evalL (evalO S.s) c.args.toList ++ [] = evalL (evalO S.s) c.args.toList := List.append_nil _
          rw [← ha] at hl hb
          refine call_sound hC R ho hcal hf hl (seesNil _) hcall (fun hany => ⟨?_, rfl⟩) (l' := S.l) rfl (fun nt A' K' S2 a' w' raws rs cvs B h1 h2 h3 h4 => ?_)
          · simp only [Bool.and_eq_true, not_and, Bool.not_eq_true] at hb
            exact hb hany
          · have hbv : anyRs (evalL (evalO S.s) c.args.toList ++ []) = true → hasSl (one rs) = false := fun hany => by
              simp only [Bool.and_eq_true, not_and, Bool.not_eq_true] at hb
              have h4' : r0 = one rs := h4
              rw [← h4']; exact hb hany
            have h4' : r0 = one rs := h4
            have hv := B.byValue h1 h2 h3 hbv (by rw [← h4']; exact hr)
            have hrel := B.rel
            exact hK _ _ _ _ (hrel.putN (fun d hd' => (hdst d hd').1) hv)
    · rename_i hcls
      simp only [Option.map_eq_some_iff] at h
      obtain ⟨l', hl', rfl⟩ := h
      cases op <;> first | (cases hcls; done) | skip
      rename_i sz x v
      obtain ⟨t, ho, hz⟩ := store_inv hop
      obtain ⟨w', h1, h2⟩ := store_sound R ho hz hl'
      unfold Oper.wp
      rw [h1, Oper.upon_skip]
      have hnone : o.dst = none := by
        cases hd' : o.dst with
        | none => rfl
        | some d => exact absurd hcls (hdst d hd').2.2
      rw [hnone]
      exact hK _ _ _ _ h2
    · rename_i hc0 hc1 hc2
      have hnp : ∀ d, o.dst = some d → op.cls = 3 → C.np ≤ d := fun d hd' => (hdst d hd').2.1
      cases op <;> first | (exact absurd rfl hc0) | (exact absurd rfl hc1) | (exact absurd rfl hc2) | skip
      case box sz v =>
        obtain ⟨e, k, ho, rfl⟩ := box_inv hop
        simp only [stepK] at h
        split at h <;> first | (cases h; done) | skip
        rename_i d cs hd' hcs
        cases h
        exact kCase (k_box R ho hd' (hnp d hd' rfl) (hdst d hd').1 hcs)
      case alloc zs =>
        obtain ⟨e, ho, hz⟩ := alloc_inv hop
        simp only [stepK] at h
        split at h <;> first | (cases h; done) | skip
        rename_i d hd'
        cases h
        exact kCase (k_alloc R ho hd' (hnp d hd' rfl) (hdst d hd').1 hz)
      case mkR zs b l c =>
        obtain ⟨t, e, sz, b', ho, h1, h2, h3, h4, h5, rfl⟩ := mkR_inv hop
        simp only [stepK] at h
        split at h <;> first | (cases h; done) | skip
        rename_i d n m hd' hn hm
        simp only [Bool.cond_eq_ite] at h
        split at h <;> first | (cases h; done) | skip
        rename_i hb
        simp only [Bool.and_eq_true, decide_eq_true_eq] at hb
        cases h
        exact kCase (k_mkR R ho hd' (hnp d hd' rfl) (hdst d hd').1 (isSliceT_of h1) h2 h3 h4 h5 hn hm hb.1 hb.2.1 hb.2.2)
      case bslR n zs ps =>
        obtain ⟨t, e, sz, parts, ho, h1, h2, h3, h4, h5, rfl⟩ := bslR_inv hop
        simp only [stepK] at h
        split at h <;> first | (cases h; done) | skip
        rename_i d cs hd' hcs
        cases h
        exact kCase (k_bslR R ho hd' (hnp d hd' rfl) (hdst d hd').1 (isSliceT_of h1) h2 h3 h4 h5 hcs)
      case nilR sz x =>
        have ho := nilR_inv hop
        simp only [stepK] at h
        split at h <;> first | (cases h; done) | skip
        rename_i d hd' hx
        cases h
        exact kCase (k_nilR R ho hd' (hnp d hd' rfl) (hdst d hd').1 hx)
      case app sz b x y =>
        obtain ⟨c, t, u, e, e', k, b', v, ho, hcal, hargs, hty, h1, h2, h3, h4, h5, h6, rfl, rfl⟩ := app_inv hop
        simp only [stepK] at h
        split at h <;> first | (cases h; done) | skip
        · rename_i td d n sz' hd' hX
          split at h <;> first | (cases h; done) | skip
          rename_i cs vs m hl hsrc
          simp only [Bool.cond_eq_ite] at h
          split at h <;> first | (cases h; done) | skip
          rename_i hb
          simp only [Bool.and_eq_true, decide_eq_true_eq, Nat.beq_eq] at hb
          obtain ⟨rfl, hb1, hb2⟩ := hb
          cases h
          exact kCase (k_app R ho hcal hargs hty (isSliceT_of h1) (isSliceT_of h2) h3 h4 h5 h6 hd' (hdst td hd').1 hX hl hb1 hsrc hb2)
        · rename_i td hd' hX
          split at h <;> first | (cases h; done) | skip
          rename_i vs m hsrc
          simp only [Bool.cond_eq_ite] at h
          split at h <;> first | (cases h; done) | skip
          rename_i hb
          simp only [decide_eq_true_eq] at hb
          cases h
          exact kCase (k_appZ R ho hcal hargs hty (isSliceT_of h1) (isSliceT_of h2) h3 h4 h5 h6 hd' (hnp td hd' rfl) (hdst td hd').1 hX hsrc hb)
      case callK f xs own =>
        obtain ⟨c, ho, hcal, rfl⟩ := callK_inv hop
        simp only [stepK] at h
        split at h <;> first | (cases h; done) | skip
        rename_i fid caps hf
        split at h <;> first | (cases h; done) | skip
        rename_i vs ds hl
        simp only [Bool.cond_eq_ite] at h
        split at h <;> first | (cases h; done) | skip
        rename_i hs
        split at h <;> first | (cases h; done) | skip
        rename_i r lent hcall
        split at h <;> first | (cases h; done) | skip
        rename_i hb
        split at h <;> first | (cases h; done) | skip
        rename_i l' hput
        have hs' : seesAny ds (evalL (evalO S.s) c.args.toList ++ caps) = false := by simpa using hs
        have hb' : anyRs (evalL (evalO S.s) c.args.toList ++ caps) = true → hasSl r = false ∧ hasSlLL lent = false := fun hany => by
          simp only [Bool.and_eq_true, Bool.or_eq_true, not_and, not_or, Bool.not_eq_true] at hb
          exact hb hany
        refine call_sound hC R ho hcal hf hl hs' hcall hb' hput (fun nt A' K' S2 a' w' raws rs cvs B h1 h2 h3 h4 => ?_)
        split at h
        · rename_i d hd'
          split at h <;> first | (cases h; done) | skip
          rename_i S3 v hrecv
          cases h
          have h4' : r = one rs := h4
          rw [h4'] at hrecv
          obtain ⟨A2, K2, R2, hv⟩ := B.recv h1 h2 h3 (fun hany => by rw [← h4']; exact (hb' hany).1) (hnp d hd' rfl) hrecv
          have hd'' : o.dst = some d := hd'
          rw [hd'']
          exact hK _ _ _ _ (R2.set1 (hdst d hd').1 hv)
        · rename_i hd'
          cases h
          have hd'' : o.dst = none := hd'
          rw [hd'']
          exact hK _ _ _ _ B.rel
  · rename_i hw
    rw [if_neg (by rw [wants_sound R hg hw]; simp)]
    cases h
    exact hK _ _ _ _ (R.putN (fun d hd' => (hdst d hd').1) (.one .un))
  · cases h

end
end Zab
