/- Parts of the proof, in order. -/
import Derived.Test.YtjnomoefbffpoaaGreatDoorS1
import Derived.Test.YtjnomoefbffpoaaGreatDoorS0
import Derived.LoopN
namespace Zab
open Go
set_option linter.unusedSimpArgs false
set_option linter.unusedVariables false
section
variable {C : Ctx} {A K : Nat → Nat} {S : St} {a : Act} {w : World} {o : Oper}
theorem run_enter {P : Program} {f : FuncId} {fn : Func} {c : Code} (hf : P.funcs[f]? = some fn) (hname : (fn.name == "runtime.NumGoroutine") = false) (hb : fn.body = some c) (args : Array Value) (w : World) :
    (callFunc f args).run P w = .ok (.enter f args) w := by
  have h1 : fn.name ≠ "runtime.NumGoroutine" := by simpa using hname
  simp [callFunc, program, Sem.run, hf, h1, hb]
theorem viewL_lends {l : List (Nat × List AV)} : ∀ {xs vs : List AV}, viewL l xs = some vs → lendPL l xs = some (vs, [], [])
  | [], vs, h => by simp only [viewL, Option.some.injEq] at h; subst h; rfl
  | x :: r, vs, h => by
    have key : ∃ v us, vs = v :: us ∧ viewL l r = some us ∧ lendP l x = some (v, [], []) := by
      unfold viewL at h
      split at h
      · rename_i hh; cases hh
      · rename_i d off n sz r' hh
        cases hh
        split at h <;> first | (cases h; done) | skip
        rename_i v us h1 h2
        cases h
        exact ⟨v, us, rfl, h2, by simp [lendP, h1]⟩
      · rename_i y r' hx hh
        cases hh
        cases hf : x.flat
        · simp [hf] at h
        · simp only [hf, cond_true] at h
          split at h <;> first | (cases h; done) | skip
          rename_i us h2
          cases h
          refine ⟨x, us, rfl, h2, ?_⟩
          cases x <;> first | (cases hf; done) | rfl
    obtain ⟨v, us, rfl, h1, h2⟩ := key
    simp only [lendPL, h2, viewL_lends h1, List.append_nil, List.nil_append]
theorem toArg_lend {l : List (Nat × List AV)} {x v : AV} (h : toArg l x = some v) : lend1 l x = some (v, [], []) ∧ (∀ j, argRows j v = [] ∧ rootsA j v = [] ∧ childA j v = []) := by
  by_cases hq : ∃ cs, x = .aq cs
  · obtain ⟨cs, rfl⟩ := hq
    simp only [toArg, Option.map_eq_some_iff] at h
    obtain ⟨vs, h1, rfl⟩ := h
    refine ⟨by simp only [lend1, viewL_lends h1]; rfl, fun j => ⟨rfl, rfl, rfl⟩⟩
  · have hn : ∀ cs, x ≠ .aq cs := fun cs e => hq ⟨cs, e⟩
    refine ⟨?_, fun j => let p := (toArg_plain h hn).1 j; ⟨p.2.1, p.2.2.1, p.2.2.2⟩⟩
    cases x
    case aq cs => exact absurd rfl (hn cs)
    case rf d o => simp [toArg] at h
    case fn f cs =>
      cases cs with
      | nil => simp only [lend1, h]
      | cons c cs => simp [toArg] at h
    all_goals simp only [lend1, h]
theorem toArgs_of {l : List (Nat × List AV)} : ∀ {xs vs : List AV}, toArgs l xs = some vs → lends l xs = some (vs, [], []) ∧ ∀ j, enterL j vs = [] ∧ rootsIn j vs = [] ∧ childIn j vs = []
  | [], vs, h => by simp only [toArgs, Option.some.injEq] at h; subst h; exact ⟨rfl, fun j => ⟨rfl, rfl, rfl⟩⟩
  | x :: r, vs, h => by
    simp only [toArgs] at h
    cases hx : toArg l x with
    | none => simp [hx] at h
    | some v =>
      cases hr : toArgs l r with
      | none => simp [hx, hr] at h
      | some us =>
        simp only [hx, hr, Option.some.injEq] at h
        subst h
        obtain ⟨i1, i2⟩ := toArgs_of hr
        obtain ⟨j1, j2⟩ := toArg_lend hx
        refine ⟨by simp only [lends, j1, i1, List.append_nil], fun j => ?_⟩
        obtain ⟨a1, a2, a3⟩ := j2 j
        obtain ⟨b1, b2, b3⟩ := i2 (j + 1)
        simp [enterL, rootsIn, childIn, a1, a2, a3, b1, b2, b3]
theorem sees0Nil : ∀ (as : List AV), sees0 [] as = false
  | [] => rfl
  | x :: r => by cases x <;> simp [sees0, memb, sees0Nil r]
theorem seesNil : ∀ (as : List AV), seesAny [] as = false
  | [] => rfl
  | x :: r => by cases x <;> simp [seesAny, memb, seesNil r, sees0Nil]
theorem call_sound {call : CallF} (hC : CallSound C.E call) (R : Rel C A K S a w) {c : Call} {f : Operand} (ho : o.op = .call c) (hcal : c.callee = .value f) {fid : Nat} {caps : List AV} (hf : evalO S.s f = .fn fid caps)
    {vs : List AV} {ds ch : List Nat} (L : Lended S.l (evalL (evalO S.s) c.args.toList ++ caps) vs ds ch) {r : Ret} (hr : call fid vs = some r)
    (hbare : anyRs (evalL (evalO S.s) c.args.toList ++ caps) = true → hasSl r.v = false ∧ hasSlLL r.lent = false) {S1 : St} (haft : afterK S ds ch r.lent = some S1)
    {Kn : Act → World → Prop} {Q : Exit → Act → World → Prop}
    (h : ∀ (nt : Nat) (A' K' : Nat → Nat) (S' : St) (a' : Act) (w' : World) (raws rs : List AV) (cvs : List Value) (hh ss h' : List Nat), Done C A K S a w (evalL (evalO S.s) c.args.toList ++ caps) vs ds ch nt A' K' S' a' w' raws rs cvs r.lent hh ss h' S1 →
      r.v = one rs → Kn (a.put o.dst (oneV cvs)) w') : o.wp C.E.P a w Kn Q := by
  obtain ⟨capsV, hfv, hcl, hcaps⟩ := vrep_fn (hf ▸ R.eval f)
  obtain ⟨fn, body, b1, b2, b3⟩ := hC.body fid vs r hr
  have hrun : (execOp a.eval o).run C.E.P w = .ok (.enter fid (c.args.toList.map a.eval ++ capsV).toArray) w := by
    simp only [execOp, ho, resolve, hcal, hfv, Deferred.ofValue, Sem.run_bind, Sem.run_pure, Result.andThen_ok, invoke]
    rw [run_enter b1 b2 b3]
    congr 2
    apply Array.ext'
    simp
  have hlen : (evalL (evalO S.s) c.args.toList ++ caps).length = (c.args.toList.map a.eval ++ capsV).length := by simp [evalL_len, hcl]
  have hvals : ∀ j (h1 : j < (evalL (evalO S.s) c.args.toList ++ caps).length) (h2 : j < (c.args.toList.map a.eval ++ capsV).length),
      VRep C.E C.np w (Still C A K S.l w) A K (evalL (evalO S.s) c.args.toList ++ caps)[j] (c.args.toList.map a.eval ++ capsV)[j] := by
    intro j h1 h2
    by_cases hj : j < (evalL (evalO S.s) c.args.toList).length
    · rw [List.getElem_append_left hj, List.getElem_append_left (by simpa [evalL_len] using hj), evalL_get]
      simpa using R.eval _
    · rw [List.getElem_append_right (by omega), List.getElem_append_right (by simp [evalL_len] at hj ⊢; omega)]
      have e1 : (evalL (evalO S.s) c.args.toList).length = (c.args.toList.map a.eval).length := by simp [evalL_len]
      simp only [← e1]
      exact .one (hcaps _ _ _)
  have hent := enter_rel R hlen hvals L (hC.len fid vs r hr)
  have e1 := L.len
  have hcalls := hC.calls fid vs r hr w (calM A K (ds ++ ch)) (calX C A K S.l (evalL (evalO S.s) c.args.toList ++ caps) (ds ++ ch)) (calA A (pIn S.l 0 (evalL (evalO S.s) c.args.toList ++ caps))) (calA K (pIn S.l 0 (evalL (evalO S.s) c.args.toList ++ caps))) _ hent (by rw [← e1]; simp [evalL_len, hcl])
  unfold Oper.wp
  rw [hrun, Oper.upon_enter]
  refine hcalls.mono ?_
  rintro e w' ⟨cv, rfl, hout⟩
  obtain ⟨S', a', A', K', nt, raws, rs, cvs, hh, ss, h', o1, o2, o3, o4, o5, o6, o7, rfl⟩ := hout.ex
  exact h nt A' K' S' a' w' raws rs cvs hh ss h' ⟨⟨R, L, o1⟩, o2, o3, o4, o5, o6, fun hany => by rw [← o7]; exact hbare hany, haft⟩ o7
theorem wants_sound (R : Rel C A K S a w) {ops : Array Oper} {g : Option (Nat × Bool)} (hg : cGuard ops o = some g) {b : Bool} (h : wants S.s g = some b) : Region.wanted o (yielded ops a.tmps) = b := by
  unfold cGuard at hg
  split at hg
  · rename_i h0
    cases hg
    simp only [wants, Option.some.injEq] at h
    subst h
    simp [Region.wanted, h0]
  · rename_i gi want h0
    split at hg <;> first | (cases hg; done) | skip
    rename_i p hp
    split at hg <;> first | (cases hg; done) | skip
    rename_i d hd
    cases hg
    have hy : yielded ops a.tmps gi = (match a.tmps[d]? with | some (.bool b) => some b | _ => none) := by
      unfold yielded
      rw [hp, Option.bind_some, hd, Option.bind_some]
      cases a.tmps[d]? with
      | none => rfl
      | some u => cases u <;> rfl
    simp only [Region.wanted, h0, hy]
    have hr := R.slot d
    simp only [wants] at h
    split at h
    · rename_i x hx
      rw [hx] at hr
      have hv := vrep_bool hr
      cases h
      rw [Array.getD_eq_getD_getElem?] at hv
      cases hq : a.tmps[d]? with
      | none => rw [hq] at hv; simp [undef] at hv
      | some u => rw [hq] at hv; simp only [Option.getD_some] at hv; subst hv; simp
    · cases h
    · rename_i hx hx2
      cases h
      have hnb : ∀ b, a.tmps.getD d undef ≠ .bool b := by
        intro b hb
        rw [hb] at hr
        generalize get S.s d = X at hr hx hx2
        cases hr with
        | one h1 => cases h1 with
          | flat h2 => cases h2; exact hx _ rfl
          | gone => exact hx2 rfl
      cases hq : a.tmps[d]? with
      | none => simp
      | some u =>
        have : u = a.tmps.getD d undef := by simp [Array.getD_eq_getD_getElem?, hq]
        cases u <;> first | (simp; done) | (rename_i b; exact absurd this.symm (hnb b))
theorem step_sound {I : Info} (hI : I.P = C.E.P ∧ I.T = C.E.T ∧ I.np = C.np ∧ I.nt = C.nt) (hnt6 : C.nt ≤ 1000000) (hE : EnvOk C.E I.sents) {call : CallF} (hC : CallSound C.E call) (R : Rel C A K S a w) {ops : Array Oper} {i : Nat} (hi : ops[i]? = some o)
    {ao : AOper} (hc : cOper I ops o = some ao) {S' : St} (h : step call ao S = some S') {Kn : Act → World → Prop} {Q : Exit → Act → World → Prop} (hK : ∀ A' K' a' w', Rel C A' K' S' a' w' → Kn a' w') :
    wpOp C.E.P ops Q i Kn a w := by
  obtain ⟨hI1, hI2, hI3, hI4⟩ := hI
  unfold cOper at hc
  split at hc <;> first | (cases hc; done) | skip
  rename_i op g hop hg
  cases hd : dstOk I.np I.nt o op
  · simp [hd] at hc
  simp only [hd, cond_true, Option.some.injEq] at hc
  subst hc
  rw [hI1, hI2] at hop
  rw [hI3, hI4] at hd
  have hdst : ∀ d, o.dst = some d → d < C.nt ∧ (op.cls = 3 → C.np ≤ d ∧ d < 1000000) ∧ op.cls ≠ 2 := by
    intro d hd'
    unfold dstOk at hd
    rw [hd'] at hd
    simp only [Bool.and_eq_true, Nat.blt_eq, Bool.or_eq_true, Nat.ble_eq, Bool.not_eq_true'] at hd
    refine ⟨hd.1.1, fun e => ?_, fun e => ?_⟩
    · rcases hd.1.2 with h | h
      · exact ⟨h, Nat.lt_of_lt_of_le hd.1.1 hnt6⟩
      · rw [e] at h; simp at h
    · have := hd.2; rw [e] at this; simp at this
  unfold wpOp
  simp only [hi]
  unfold step at h
  split at h
  · rename_i hw
    rw [if_pos (wants_sound R hg hw)]
    left
    have pureCase : ∀ {r : AV}, PureOk C A K S a w o r → S' = S.putD o.dst r → o.wp C.E.P a w Kn Q := by
      rintro r ⟨v, w', h1, h2, h3⟩ rfl
      unfold Oper.wp
      rw [h1, Oper.upon_value]
      exact hK _ _ _ _ ((R.grew h2).putN (fun d hd' => (hdst d hd').1) h3)
    have kCase : KOk C a w o S' → o.wp C.E.P a w Kn Q := by
      rintro ⟨v, w', A', K', h1, h2⟩
      unfold Oper.wp
      rw [h1, Oper.upon_value]
      exact hK _ _ _ _ h2
    split at h
    · rename_i hcls
      simp only [Option.map_eq_some_iff] at h
      obtain ⟨r, hr, rfl⟩ := h
      by_cases hg : ∃ g, op = .ldg g
      · obtain ⟨g, rfl⟩ := hg
        obtain ⟨t, ho, hm, hgl⟩ := ldg_inv hop
        exact pureCase (load_sound (call := call) hE R ho hm (fun g' e => by cases e; exact hgl) hr) rfl
      · by_cases he : ∃ m x, op = .ldE m x
        · obtain ⟨m, x, rfl⟩ := he
          obtain ⟨t, ho, hm, hgl⟩ := ldE_inv hop
          have hr' : readV call (evalO S.s) S.l (.load m x) = some r := by
            cases x with
            | global g => exact absurd rfl (hgl g)
            | _ =>
              simp only [pureV] at hr
              split at hr <;> first | (cases hr; done) | skip
              rename_i cs o' hx'
              simp only [readV, hx']
              exact keepE_some hr
          exact pureCase (load_sound (call := call) hE R ho hm (fun g' e => absurd e (hgl g')) hr') rfl
        · exact pureCase (pure_sound hE R hop (fun g e => hg ⟨g, e⟩) (fun m x e => he ⟨m, x, e⟩) hr) rfl
    · rename_i hcls
      simp only [Option.map_eq_some_iff] at h
      obtain ⟨r, hr, rfl⟩ := h
      cases op <;> first | (cases hcls; done) | skip
      case load m x =>
        obtain ⟨t, ho, hm, hgl⟩ := load_inv hop
        exact pureCase (load_sound hE R ho hm hgl hr) rfl
      case call f xs =>
        obtain ⟨c, ho, hcal, rfl⟩ := call_inv hop
        simp only [readV] at hr
        split at hr <;> first | (cases hr; done) | skip
        rename_i fid hf
        cases hta : toArgs S.l (evalL (evalO S.s) c.args.toList) with
        | none => simp [hta] at hr
        | some vs =>
          simp only [hta] at hr
          split at hr <;> first | (cases hr; done) | skip
          rename_i r0 hcall
          simp only [Bool.cond_eq_ite] at hr
          split at hr <;> first | (cases hr; done) | skip
          rename_i hb
          obtain ⟨hl, hl0⟩ := toArgs_of hta
          have ha : evalL (evalO S.s) c.args.toList ++ [] = evalL (evalO S.s) c.args.toList := List.append_nil _
          rw [← ha] at hl hb
          obtain ⟨z1, z2, z3⟩ := hl0 0
          have L : Lended S.l (evalL (evalO S.s) c.args.toList ++ []) vs [] [] := ⟨hl, seesNil _, by simp, rfl⟩
          refine call_sound hC R ho hcal hf L hcall (fun hany => ⟨?_, rfl⟩) (S1 := S) rfl (fun nt A' K' S2 a' w' raws rs cvs hh ss h' Q h4 => ?_)
          · simp only [Bool.and_eq_true, not_and, Bool.not_eq_true] at hb
            exact hb hany
          · have h4' : r0 = one rs := h4
            obtain ⟨A1, K1, hrel, hv⟩ := Q.byValue (by rw [← h4']; exact hr)
            exact hK _ _ _ _ (hrel.putN (fun d hd' => (hdst d hd').1) hv)
    · rename_i hcls
      simp only [Option.map_eq_some_iff] at h
      obtain ⟨l', hl', rfl⟩ := h
      cases op <;> first | (cases hcls; done) | skip
      rename_i sz x v
      obtain ⟨t, ho, hz⟩ := store_inv hop
      obtain ⟨w', h1, h2⟩ := store_sound R ho hz hl'
      unfold Oper.wp
      rw [h1, Oper.upon_skip]
      have hnone : o.dst = none := by
        cases hd' : o.dst with
        | none => rfl
        | some d => exact absurd hcls (hdst d hd').2.2
      rw [hnone]
      exact hK _ _ _ _ h2
    · rename_i hc0 hc1 hc2
      have hnp : ∀ d, o.dst = some d → op.cls = 3 → C.np ≤ d ∧ d < 1000000 := fun d hd' => (hdst d hd').2.1
      cases op <;> first | (exact absurd rfl hc0) | (exact absurd rfl hc1) | (exact absurd rfl hc2) | skip
      case box sz v =>
        obtain ⟨e, k, ho, rfl⟩ := box_inv hop
        simp only [stepC, mark8, stepK] at h
        split at h <;> first | (cases h; done) | skip
        rename_i d cs hd' hcs
        cases h
        exact kCase (k_box R ho hd' (hnp d hd' rfl) (hdst d hd').1 hcs)
      case alloc zs =>
        obtain ⟨e, ho, hz⟩ := alloc_inv hop
        simp only [stepC, mark8, stepK] at h
        split at h <;> first | (cases h; done) | skip
        rename_i d hd'
        cases h
        exact kCase (k_alloc R ho hd' (hnp d hd' rfl) (hdst d hd').1 hz)
      case boxQ sz v nils =>
        obtain ⟨e, k, ho, rfl⟩ := boxQ_inv hop
        simp only [stepC, mark8, stepK] at h
        split at h <;> first | (cases h; done) | skip
        rename_i d cs hd' hcs
        exact kCase (k_boxQ R ho hd' (hnp d hd' rfl) (hdst d hd').1 hcs h)
      case allocQ zs nils =>
        obtain ⟨e, ho, hz, hpos⟩ := allocQ_inv hop
        simp only [stepC, mark8, stepK] at h
        split at h <;> first | (cases h; done) | skip
        rename_i d hd'
        exact kCase (k_allocQ R ho hd' (hnp d hd' rfl) (hdst d hd').1 hz h hpos)
      case appN zs b x y =>
        obtain ⟨c, t, u, e, k, sz, b', ho, hcal, hargs, hty, h1, h2, h3, h4, h5, h6, rfl⟩ := appN_inv hop
        simp only [stepC, mark8, stepK] at h
        split at h <;> first | (cases h; done) | skip
        rename_i d n hd' hX hY
        simp only [Bool.cond_eq_ite] at h
        split at h <;> first | (cases h; done) | skip
        rename_i hb
        simp only [Bool.and_eq_true, decide_eq_true_eq] at hb
        cases h
        exact kCase (k_appN R ho hcal hargs hty (isSliceT_of h1) h2 h3 h4 h5 h6 hd' (hnp d hd' rfl) (hdst d hd').1 hX hY hb.1 hb.2)
      case mkR zs b l c =>
        obtain ⟨t, e, sz, b', ho, h1, h2, h3, h4, h5, rfl⟩ := mkR_inv hop
        simp only [stepC, mark8, stepK] at h
        split at h <;> first | (cases h; done) | skip
        rename_i d n m hd' hn hm
        simp only [Bool.cond_eq_ite] at h
        split at h <;> first | (cases h; done) | skip
        rename_i hb
        simp only [Bool.and_eq_true, decide_eq_true_eq] at hb
        cases h
        exact kCase (k_mkR R ho hd' (hnp d hd' rfl) (hdst d hd').1 (isSliceT_of h1) h2 h3 h4 h5 hn hm hb.1 hb.2.1 hb.2.2)
      case bslR n zs ps =>
        obtain ⟨t, e, sz, parts, ho, h1, h2, h3, h4, h5, rfl⟩ := bslR_inv hop
        simp only [stepC, mark8, stepK] at h
        split at h <;> first | (cases h; done) | skip
        rename_i d cs hd' hcs
        cases h
        exact kCase (k_bslR R ho hd' (hnp d hd' rfl) (hdst d hd').1 (isSliceT_of h1) h2 h3 h4 h5 hcs)
      case nilR sz x =>
        have ho := nilR_inv hop
        simp only [stepC, mark8, stepK] at h
        split at h <;> first | (cases h; done) | skip
        rename_i d hd' hx
        cases h
        exact kCase (k_nilR R ho hd' (hnp d hd' rfl) (hdst d hd').1 hx)
      case app sz b x y =>
        obtain ⟨c, t, u, e, e', k, b', v, ho, hcal, hargs, hty, h1, h2, h3, h4, h5, h6, rfl, rfl⟩ := app_inv hop
        simp only [stepC, mark8, stepK] at h
        split at h <;> first | (cases h; done) | skip
        · rename_i td d n sz' hd' hX
          split at h <;> first | (cases h; done) | skip
          rename_i cs vs m hl hsrc
          simp only [Bool.cond_eq_ite] at h
          split at h <;> first | (cases h; done) | skip
          rename_i hb
          simp only [Bool.and_eq_true, decide_eq_true_eq, Nat.beq_eq, Nat.ble_eq, Bool.not_eq_true'] at hb
          obtain ⟨⟨rfl, hfl⟩, hb1, hb2⟩ := hb
          cases h
          have e0 : (if Nat.beq cs.length (n * (k + 1)) = true then cs else cs.take (n * (k + 1))) = cs.take (n * (k + 1)) := by
            split
            · rename_i hq; rw [← Nat.eq_of_beq_eq_true hq, List.take_length]
            · rfl
          rw [e0] at hK pureCase kCase
          exact kCase (k_app R ho hcal hargs hty (isSliceT_of h1) (isSliceT_of h2) h3 h4 h5 h6 hd' (hdst td hd').1 hX hl hfl hb1 rfl hsrc hb2)
        · rename_i td hd' hX
          split at h <;> first | (cases h; done) | skip
          rename_i vs m hsrc
          simp only [Bool.cond_eq_ite] at h
          split at h <;> first | (cases h; done) | skip
          rename_i hb
          simp only [decide_eq_true_eq] at hb
          cases h
          exact kCase (k_appZ R ho hcal hargs hty (isSliceT_of h1) (isSliceT_of h2) h3 h4 h5 h6 hd' (hnp td hd' rfl) (hdst td hd').1 hX hsrc hb)
      case callK f xs own =>
        obtain ⟨c, ho, hcal, rfl⟩ := callK_inv hop
        have hx : ∃ (S0 : St) (own0 : List (Nat × Nat)), Rel C A K S0 a w ∧ stepK call S0 o.dst (.callK f c.args.toList own0) = some S' := by
          unfold stepC at h
          cases hm : m8 own
          · simp only [mark8, hm, cond_false] at h
            exact ⟨S, own, R, h⟩
          · simp only [mark8, hm, cond_true] at h
            cases hz : freezes S (rsOf (evalL (evalO S.s) c.args.toList)) with
            | none => rw [hz] at h; cases h
            | some S2 => rw [hz] at h; exact ⟨S2, _, Rel.freezes _ R hz, h⟩
        obtain ⟨S0, own0, R0, h0⟩ := hx
        simp only [stepK] at h0
        split at h0 <;> first | (cases h0; done) | skip
        rename_i fid caps hf
        split at h0 <;> first | (cases h0; done) | skip
        rename_i vs ds ch hl
        simp only [Bool.cond_eq_ite] at h0
        split at h0 <;> first | (cases h0; done) | skip
        rename_i hs
        split at h0 <;> first | (cases h0; done) | skip
        rename_i r lent hcall
        split at h0 <;> first | (cases h0; done) | skip
        rename_i hb
        split at h0 <;> first | (cases h0; done) | skip
        rename_i S1 haft
        split at h0 <;> first | (cases h0; done) | skip
        simp only [Bool.or_eq_true, Bool.not_eq_true', not_or, Bool.not_eq_true, Bool.not_eq_false, nodupB_iff] at hs
        have L : Lended S0.l (evalL (evalO S0.s) c.args.toList ++ caps) vs ds ch := ⟨hl, hs.1.1, hs.1.2, hs.2⟩
        have hb' : anyRs (evalL (evalO S0.s) c.args.toList ++ caps) = true → hasSl r = false ∧ hasSlLL lent = false := fun hany => by
          simp only [Bool.and_eq_true, Bool.or_eq_true, not_and, not_or, Bool.not_eq_true] at hb
          exact hb hany
        refine call_sound hC R0 ho hcal hf L hcall hb' haft (fun nt A' K' S2 a' w' raws rs cvs hh ss h0' Q h4 => ?_)
        split at h0
        · rename_i d hd'
          split at h0 <;> first | (cases h0; done) | skip
          rename_i S3 v hrecv
          cases h0
          have h4' : r = one rs := h4
          rw [h4'] at hrecv
          obtain ⟨A2, K2, R2, hv⟩ := Q.recv (hnp d hd' rfl) hrecv
          have hd'' : o.dst = some d := hd'
          rw [hd'']
          exact hK _ _ _ _ (R2.set1 (hdst d hd').1 hv)
        · rename_i hd'
          cases h0
          have hd'' : o.dst = none := hd'
          rw [hd'']
          obtain ⟨A1, K1, R1, _⟩ := Q.after (F := []) (fun x hx => by cases hx)
          exact hK _ _ _ _ R1.rel
  · rename_i hw
    rw [if_neg (by rw [wants_sound R hg hw]; simp)]
    cases h
    exact hK _ _ _ _ (R.putN (fun d hd' => (hdst d hd').1) (.one .un))
  · cases h
end
end Zab
namespace Zab
open Go
set_option linter.unusedSimpArgs false
set_option linter.unusedVariables false
theorem put_comm {α : Type} (l : List (Nat × α)) {i k : Nat} (h : i ≠ k) (v u : α) : put (put l i v) k u = put (put l k u) i v := by
  have lt : ∀ {a b : Nat}, a < b → Nat.blt a b = true := fun h => by simpa [Nat.blt_eq] using h
  have nlt : ∀ {a b : Nat}, ¬ a < b → Nat.blt a b = false := fun h => by rw [← Bool.not_eq_true, Nat.blt_eq]; exact h
  have neq : ∀ {a b : Nat}, a ≠ b → Nat.beq a b = false := fun h => by rw [← Bool.not_eq_true, Nat.beq_eq]; exact h
  induction l with
  | nil =>
    rcases Nat.lt_or_gt_of_ne h with h1 | h1
    · simp [put, lt h1, nlt (Nat.lt_asymm h1), neq h, neq (Ne.symm h)]
    · simp [put, lt h1, nlt (Nat.lt_asymm h1), neq h, neq (Ne.symm h)]
  | cons p r ih =>
    obtain ⟨j, x⟩ := p
    rcases Nat.lt_trichotomy j i with h1 | h1 | h1 <;> rcases Nat.lt_trichotomy j k with h2 | h2 | h2
    · rcases Nat.lt_or_gt_of_ne h with h3 | h3
      · simp [put, lt h1, lt h2, lt h3, nlt (Nat.lt_asymm h3), neq h, neq (Ne.symm h)]
      · simp [put, lt h1, lt h2, lt h3, nlt (Nat.lt_asymm h3), neq h, neq (Ne.symm h)]
    · have h2 := h2.symm; subst h2
      simp [put, lt h1, nlt (Nat.lt_asymm h1), nlt (Nat.lt_irrefl k), neq (Ne.symm h), Nat.beq_refl]
    · have h3 : k < i := by omega
      simp [put, lt h1, lt h3, nlt (Nat.lt_asymm h2), nlt (Nat.lt_asymm h3), neq (Ne.symm h), neq (show k ≠ j by omega)]
    · have h1 := h1.symm; subst h1
      simp [put, lt h2, nlt (Nat.lt_asymm h2), nlt (Nat.lt_irrefl i), neq h, Nat.beq_refl]
    · omega
    · have h1 := h1.symm; subst h1
      simp [put, nlt (Nat.lt_irrefl i), nlt (Nat.lt_asymm h2), Nat.beq_refl, neq (show k ≠ i by omega)]
    · have h3 : i < k := by omega
      simp [put, lt h2, lt h3, nlt (Nat.lt_asymm h1), nlt (Nat.lt_asymm h3), neq h, neq (show i ≠ j by omega)]
    · have h2 := h2.symm; subst h2
      simp [put, nlt (Nat.lt_irrefl k), nlt (Nat.lt_asymm h1), Nat.beq_refl, neq h]
    · simp [put, nlt (Nat.lt_asymm h1), nlt (Nat.lt_asymm h2), neq (show i ≠ j by omega), neq (show k ≠ j by omega), ih]
theorem get_put_ne (l : List (Nat × AV)) {i j : Nat} (h : j ≠ i) (v : AV) : get (put l i v) j = get l j := by
  have lt : ∀ {a b : Nat}, a < b → Nat.blt a b = true := fun h => by simpa [Nat.blt_eq] using h
  have nlt : ∀ {a b : Nat}, ¬ a < b → Nat.blt a b = false := fun h => by rw [← Bool.not_eq_true, Nat.blt_eq]; exact h
  have neq : ∀ {a b : Nat}, a ≠ b → Nat.beq a b = false := fun h => by rw [← Bool.not_eq_true, Nat.beq_eq]; exact h
  induction l with
  | nil => simp [put, get, neq (Ne.symm h)]
  | cons p r ih =>
    obtain ⟨k, x⟩ := p
    rcases Nat.lt_trichotomy k i with h1 | h1 | h1
    · simp [put, lt h1, get, neq (Ne.symm h)]
    · have h1 := h1.symm; subst h1; simp [put, nlt (Nat.lt_irrefl i), Nat.beq_refl, get, neq (Ne.symm h)]
    · simp [put, nlt (Nat.lt_asymm h1), neq (show i ≠ k by omega), get, ih]
theorem meets_of {l m : List Nat} (h : meets l m = false) : ∀ x ∈ l, x ∉ m := by
  have mem : ∀ {ds : List Nat} {d : Nat}, memb ds d = true ↔ d ∈ ds := by
    intro ds d
    induction ds with
    | nil => simp [memb]
    | cons x r ih => simp only [memb, Bool.or_eq_true, ih, List.mem_cons, Nat.beq_eq]; constructor <;> rintro (h | h) <;> simp [h]
  induction l with
  | nil => intro x hx; cases hx
  | cons y r ih =>
    simp only [meets, Bool.or_eq_false_iff] at h
    intro x hx
    rcases List.mem_cons.1 hx with rfl | hx
    · intro hm; rw [← mem] at hm; rw [hm] at h; cases h.1
    · exact ih h.2 x hx
theorem tmpsOf_mem : ∀ {l : List Operand} {t : Nat}, Operand.tmp t ∈ l → t ∈ tmpsOf l
  | x :: r, t, h => by
    rcases List.mem_cons.1 h with h | h
    · subst h; simp [tmpsOf]
    · have := tmpsOf_mem h
      cases x <;> simp [tmpsOf, this]
theorem evalO_put {s : List (Nat × AV)} {d : Nat} {v : AV} {x : Operand} (h : ∀ t, x = .tmp t → t ≠ d) : evalO (put s d v) x = evalO s x := by
  cases x with
  | tmp t => exact get_put_ne _ (h t rfl) _
  | const v => cases v <;> rfl
  | _ => rfl
section
variable {ρ ρ' : Operand → AV}
theorem evalL_congr : ∀ {l : List Operand}, (∀ x ∈ l, ρ x = ρ' x) → evalL ρ l = evalL ρ' l
  | [], _ => rfl
  | x :: r, h => by rw [evalL, evalL, h x (by simp), evalL_congr fun y hy => h y (by simp [hy])]
theorem fillV_congr : ∀ {ps : List (Nat × Nat × Operand)}, (∀ x ∈ ps.map (fun p => p.2.2), ρ x = ρ' x) → ∀ cs, fillV ρ ps cs = fillV ρ' ps cs
  | [], _, _ => rfl
  | (off, sz, x) :: r, h, cs => by
    have hx := h x (by simp)
    have ih := fillV_congr (ps := r) fun y hy => h y (by simp only [List.map_cons, List.mem_cons]; exact .inr hy)
    simp only [fillV, hx]
    cases cellsOf sz (ρ' x) with
    | none => rfl
    | some vs =>
      simp only
      cases Nat.ble (off + sz) cs.length
      · rfl
      · simp only [cond_true]
        split <;> exact ih _
theorem fillQ_congr : ∀ {ps : List (Nat × Nat × Operand)}, (∀ x ∈ ps.map (fun p => p.2.2), ρ x = ρ' x) → ∀ cs, fillQ ρ ps cs = fillQ ρ' ps cs
  | [], _, _ => rfl
  | (off, sz, x) :: r, h, cs => by
    have hx := h x (by simp)
    have ih := fillQ_congr (ps := r) fun y hy => h y (by simp only [List.map_cons, List.mem_cons]; exact .inr hy)
    simp only [fillQ, hx]
    cases cellsQ sz (ρ' x) with
    | none => rfl
    | some vs =>
      simp only
      cases Nat.ble (off + sz) cs.length
      · rfl
      · simp only [cond_true]
        split <;> exact ih _
theorem pureV_congr {op : AOp} (h : ∀ x ∈ opnds op, ρ x = ρ' x) : pureV ρ op = pureV ρ' op := by
  cases op <;> simp only [opnds, List.mem_cons, List.mem_nil_iff, or_false, forall_eq_or_imp, forall_eq] at h
  case build zero ps => simp only [pureV, fillV_congr h]
  case buildQ zero ps => simp only [pureV, fillQ_congr h]
  case bsl n zero ps => simp only [pureV, fillV_congr h]
  case mkfn f l => simp only [pureV, evalL_congr h]
  case mn l => simp only [pureV, evalL_congr h]
  case mx l => simp only [pureV, evalL_congr h]
  case len s x => cases s <;> simp only [pureV, h]
  case slc sz x lo hi mx =>
    obtain ⟨h1, h2⟩ := h
    have o : ∀ {y : Option Operand}, (∀ z ∈ y.toList, ρ z = ρ' z) → y.map ρ = y.map ρ' := fun {y} hy => by
      cases y with
      | none => rfl
      | some z => simp [hy z (by simp)]
    simp only [pureV, h1, o fun z hz => h2 z (by simp at hz ⊢; exact .inl hz), o fun z hz => h2 z (by simp at hz ⊢; exact .inr (.inl hz)), o fun z hz => h2 z (by simp at hz ⊢; exact .inr (.inr hz))]
  all_goals first | rfl | simp only [pureV, h] | (obtain ⟨h1, h2⟩ := h; simp only [pureV, h1, h2]) | (obtain ⟨h1, h2, h3⟩ := h; simp only [pureV, h1, h2, h3])
theorem readV_congr {call : CallF} {l : List (Nat × List AV)} {op : AOp} (h : ∀ x ∈ opnds op, ρ x = ρ' x) : readV call ρ l op = readV call ρ' l op := by
  cases op <;> first | rfl | skip
  case load m x =>
    have := h x (by simp [opnds])
    cases x <;> simp only [readV, this]
  case call f xs =>
    have h1 := h f (by simp [opnds])
    have h2 := evalL_congr (ρ := ρ) (ρ' := ρ') (l := xs) fun y hy => h y (by simp [opnds, hy])
    simp only [readV, h1, h2]
theorem writeV_congr {l : List (Nat × List AV)} {op : AOp} (h : ∀ x ∈ opnds op, ρ x = ρ' x) : writeV ρ l op = writeV ρ' l op := by
  cases op <;> first | rfl | skip
  case store sz x v =>
    have h1 := h x (by simp [opnds])
    have h2 := h v (by simp [opnds])
    simp only [writeV, h1, h2]
end
def afterL (l : List (Nat × List AV)) (ds ch : List Nat) (lent : List (List AV)) : Option (List (Nat × List AV)) :=
  match backL ds lent with
  | some (a, b) => bif (nodupB (keys a ++ keys b) && allCh (keys b)) && (ch.isEmpty && b.isEmpty) then some (putRows l a) else none
  | none => none
def kAct (call : CallF) (hasDst : Bool) (f : Operand) (xs : List Operand) (s : List (Nat × AV)) (l : List (Nat × List AV)) : Option (Option AV × List (Nat × List AV)) :=
  match evalO s f with
  | .fn g caps =>
    (match lends l (evalL (evalO s) xs ++ caps) with
     | some (vs, ds, ch) =>
       bif (seesAny (ds ++ ch) (evalL (evalO s) xs ++ caps) || !nodupB (ds ++ ch)) || !okEnter ds vs then none else
         (match call g vs with
          | some ⟨r, lent⟩ =>
            bif anyRs (evalL (evalO s) xs ++ caps) && (hasSl r || hasSlLL lent) then none else
              (match afterL l ds ch lent with
               | some l' => bif hasDst then (match fromRet r with | some v => some (some v, l') | none => none) else some (none, l')
               | none => none)
          | none => none)
     | none => none)
  | _ => none
def act (call : CallF) (o : AOper) (s : List (Nat × AV)) (l : List (Nat × List AV)) : Option (Option AV × List (Nat × List AV)) :=
  match wants s o.guard with
  | some true =>
    (match isK o.op with
     | some (f, xs) => kAct call o.dst.isSome f xs s l
     | none =>
       (match o.op.cls with
        | 0 => (pureV (evalO s) o.op).map fun v => (some v, l)
        | 1 => (readV call (evalO s) l o.op).map fun v => (some v, l)
        | _ => (writeV (evalO s) l o.op).map fun l => (none, l)))
  | some false => some (some .un, l)
  | none => none
def res (S : St) (dst : Option Nat) (p : Option AV × List (Nat × List AV)) : St :=
  { s := match dst, p.1 with | some d, some v => put S.s d v | _, _ => S.s, l := p.2 }
theorem isK_some {op : AOp} {f : Operand} {xs : List Operand} (h : isK op = some (f, xs)) : op = .callK f xs [] := by
  unfold isK at h
  split at h <;> cases h
  rfl
theorem recv_nil (S : St) (d : Nat) (r : AV) : recv S d [] r = match fromRet r with | some v => some (S, v) | none => none := by
  cases r <;> rfl
theorem after_stays {α : Type} (S : St) (ds ch : List Nat) (lent : List (List AV)) (X : St → Option α) :
    (match afterK S ds ch lent with | some S1 => bif stays [] ch ds lent then X S1 else none | none => none) = (match afterL S.l ds ch lent with | some l' => X { S with l := l' } | none => none) := by
  unfold afterK afterL stays
  cases backL ds lent with
  | none => rfl
  | some p =>
    obtain ⟨a, b⟩ := p
    simp only
    cases nodupB (keys a ++ keys b) && allCh (keys b)
    · rfl
    · simp only [cond_true, Bool.true_and]
      cases ch with
      | cons x r => rfl
      | nil =>
        cases b with
        | cons x r => rfl
        | nil => rfl
theorem kAct_step (call : CallF) (S : St) (dst : Option Nat) (f : Operand) (xs : List Operand) : stepK call S dst (.callK f xs []) = (kAct call dst.isSome f xs S.s S.l).map (res S dst) := by
  simp only [stepK, kAct]
  cases evalO S.s f <;> try rfl
  rename_i g caps
  simp only
  generalize evalL (evalO S.s) xs ++ caps = as
  cases lends S.l as with
  | none => rfl
  | some p =>
    obtain ⟨vs, ds, ch⟩ := p
    simp only
    cases (seesAny (ds ++ ch) as || !nodupB (ds ++ ch)) || !okEnter ds vs
    · simp only [cond_false]
      cases call g vs with
      | none => rfl
      | some R =>
        obtain ⟨r, lent⟩ := R
        simp only
        cases (anyRs as && (hasSl r || hasSlLL lent))
        · simp only [cond_false]
          refine (after_stays S ds ch lent (fun S1 => match dst with | some d => (match recv S1 d [] r with | some (S2, v) => some (S2.putD (some d) v) | none => none) | none => some S1)).trans ?_
          cases afterL S.l ds ch lent with
          | none => rfl
          | some l' =>
            cases dst with
            | none => rfl
            | some d =>
              simp only [recv_nil, Option.isSome_some, cond_true]
              cases fromRet r <;> rfl
        · rfl
    · rfl
theorem step_act {call : CallF} {o : AOper} (h : wcls o.op ≤ 2) (S : St) : step call o S = (act call o S.s S.l).map (res S o.dst) := by
  unfold step act
  cases wants S.s o.guard with
  | none => rfl
  | some b =>
    cases b
    · simp only [Option.map_some, res, St.putD]; cases o.dst <;> rfl
    · cases hk : isK o.op with
      | some p =>
        obtain ⟨f, xs⟩ := p
        have e := isK_some hk
        simp only [e]
        exact kAct_step call S o.dst f xs
      | none =>
        have h' : o.op.cls ≤ 2 := by unfold wcls at h; rw [hk] at h; exact h
        have hc : o.op.cls = 0 ∨ o.op.cls = 1 ∨ o.op.cls = 2 := by omega
        rcases hc with hc | hc | hc
        · simp only [hc, Option.map_map]; congr 1; funext v; simp only [Function.comp, res, St.putD]; cases o.dst <;> rfl
        · simp only [hc, Option.map_map]; congr 1; funext v; simp only [Function.comp, res, St.putD]; cases o.dst <;> rfl
        · simp only [hc, Option.map_map]; congr 1; funext v; simp only [Function.comp, res]; cases o.dst <;> rfl
theorem wants_put {s : List (Nat × AV)} {d : Nat} {v : AV} {g : Option (Nat × Bool)} (h : ∀ t b, g = some (t, b) → t ≠ d) : wants (put s d v) g = wants s g := by
  cases g with
  | none => rfl
  | some p => obtain ⟨t, b⟩ := p; simp only [wants, get_put_ne s (h t b rfl) v]
theorem act_put {call : CallF} {o : AOper} {s : List (Nat × AV)} {l : List (Nat × List AV)} {d : Nat} {v : AV} (h : d ∉ looksA o) : act call o (put s d v) l = act call o s l := by
  have h1 : ∀ x ∈ opnds o.op, evalO (put s d v) x = evalO s x := fun x hx => evalO_put fun t e => by
    subst e
    rintro rfl
    exact h (by simp only [looksA, List.mem_append]; exact .inl (tmpsOf_mem hx))
  have h2 : wants (put s d v) o.guard = wants s o.guard := wants_put fun t b e => by
    rintro rfl
    exact h (by simp only [looksA, List.mem_append, e]; exact .inr (by simp))
  have h3 : ∀ f xs, isK o.op = some (f, xs) → kAct call o.dst.isSome f xs (put s d v) l = kAct call o.dst.isSome f xs s l := fun f xs hk => by
    have e := isK_some hk
    rw [e] at h1
    have hf := h1 f (by simp [opnds])
    have hxs : evalL (evalO (put s d v)) xs = evalL (evalO s) xs := evalL_congr fun x hx => h1 x (by simp [opnds, hx])
    simp only [kAct, hf, hxs]
  unfold act
  rw [h2, pureV_congr h1, readV_congr h1, writeV_congr h1]
  cases hk : isK o.op with
  | none => rfl
  | some p => simp only [h3 p.1 p.2 hk]
theorem wcls_lt {op : AOp} (h : wcls op < 2) : isK op = none ∧ op.cls = wcls op := by
  unfold wcls at *
  cases hk : isK op with
  | none => exact ⟨rfl, rfl⟩
  | some p => rw [hk] at h; simp at h
theorem act_rows {call : CallF} {o : AOper} {s : List (Nat × AV)} (l l' : List (Nat × List AV)) (h : wcls o.op = 0) : act call o s l' = (act call o s l).map fun p => (p.1, l') := by
  obtain ⟨hk, hc⟩ := wcls_lt (op := o.op) (by omega)
  rw [h] at hc
  unfold act
  cases wants s o.guard with
  | none => rfl
  | some b =>
    cases b
    · rfl
    · simp only [hk, hc, Option.map_map]; congr 1
theorem act_keeps {call : CallF} {o : AOper} {s : List (Nat × AV)} {l : List (Nat × List AV)} {p : Option AV × List (Nat × List AV)} (h : wcls o.op < 2) (ha : act call o s l = some p) : p.2 = l := by
  obtain ⟨hk, hc'⟩ := wcls_lt h
  unfold act at ha
  split at ha <;> first | (cases ha; done) | skip
  · rw [hk] at ha
    simp only at ha
    have hc : o.op.cls = 0 ∨ o.op.cls = 1 := by omega
    rcases hc with hc | hc
    · simp only [hc, Option.map_eq_some_iff] at ha; obtain ⟨v, _, rfl⟩ := ha; rfl
    · simp only [hc, Option.map_eq_some_iff] at ha; obtain ⟨v, _, rfl⟩ := ha; rfl
  · cases ha; rfl
theorem act_res {call : CallF} {a b : AOper} {S : St} {p : Option AV × List (Nat × List AV)} (hd : ∀ d, a.dst = some d → d ∉ looksA b) : act call b (res S a.dst p).s p.2 = act call b S.s p.2 := by
  unfold res
  cases ha : a.dst with
  | none => rfl
  | some d =>
    cases hp : p.1 with
    | none => rfl
    | some v => simp only; exact act_put (hd d ha)
theorem res_comm {S : St} {d e : Option Nat} (h : ∀ x y, d = some x → e = some y → x ≠ y) (p q : Option AV) (l : List (Nat × List AV)) : res (res S d (p, l)) e (q, l) = res (res S e (q, l)) d (p, l) := by
  unfold res
  cases d <;> cases e <;> cases p <;> cases q <;> first | rfl | skip
  rename_i x y u v
  simp only
  rw [put_comm _ (h x y rfl rfl)]
theorem free_comm {call : CallF} {a b : AOper} (h : free a b = true) (S : St) : (step call a S).bind (step call b) = (step call b S).bind (step call a) := by
  simp only [free, Bool.and_eq_true, Bool.not_eq_true'] at h
  obtain ⟨⟨h1, h2⟩, h3⟩ := h
  have m1 := meets_of h1
  have m2 := meets_of h2
  have da : ∀ d, a.dst = some d → d ∉ looksA b := fun d e hm => m1 d (by simp [dstA, e]) (List.mem_append_left _ hm)
  have dab : ∀ x y, a.dst = some x → b.dst = some y → x ≠ y := fun x y e1 e2 hh => m1 x (by simp [dstA, e1]) (List.mem_append_right _ (by simp [dstA, e2, hh]))
  have db : ∀ d, b.dst = some d → d ∉ looksA a := fun d e hm => m2 d (by simp [dstA, e]) hm
  have ca : wcls a.op ≤ 2 := by
    revert h3; generalize wcls a.op = x; generalize wcls b.op = y; intro h3
    match x, y, h3 with
    | 0, _, _ => omega
    | 1, _, _ => omega
    | 2, _, _ => omega
    | n + 3, _, h => cases h
  have cb : wcls b.op ≤ 2 := by
    revert h3; generalize wcls a.op = x; generalize wcls b.op = y; intro h3
    match x, y, h3 with
    | _, 0, _ => omega
    | _, 1, _ => omega
    | _, 2, _ => omega
    | 0, n + 3, h => cases h
    | 1, n + 3, h => cases h
    | 2, n + 3, h => cases h
    | m + 3, n + 3, h => cases h
  have cc : (wcls a.op < 2 ∧ wcls b.op < 2) ∨ (wcls a.op = 2 ∧ wcls b.op = 0) ∨ (wcls a.op = 0 ∧ wcls b.op = 2) := by
    revert h3; generalize wcls a.op = x; generalize wcls b.op = y; intro h3
    match x, y, h3 with
    | 0, 0, _ => omega
    | 0, 1, _ => omega
    | 1, 0, _ => omega
    | 1, 1, _ => omega
    | 0, 2, _ => omega
    | 2, 0, _ => omega
    | 1, n + 2, h => cases h
    | 0, n + 3, h => cases h
    | 2, n + 1, h => cases h
    | m + 3, n, h => cases h
  have fa : ∀ S, step call a S = (act call a S.s S.l).map (res S a.dst) := step_act ca
  have fb : ∀ S, step call b S = (act call b S.s S.l).map (res S b.dst) := step_act cb
  have e1 : ∀ p, step call b (res S a.dst p) = (act call b S.s p.2).map (res (res S a.dst p) b.dst) := fun p => by
    rw [fb]; show Option.map _ (act call b (res S a.dst p).s p.2) = _; rw [act_res da]
  have e2 : ∀ p, step call a (res S b.dst p) = (act call a S.s p.2).map (res (res S b.dst p) a.dst) := fun p => by
    rw [fa]; show Option.map _ (act call a (res S b.dst p).s p.2) = _; rw [act_res db]
  rw [fa S, fb S]
  rcases cc with ⟨c1, c2⟩ | ⟨c1, c2⟩ | ⟨c1, c2⟩
  · cases ha : act call a S.s S.l with
    | none =>
      cases hb : act call b S.s S.l with
      | none => rfl
      | some q =>
        simp only [Option.map_none, Option.bind_none, Option.map_some, Option.bind_some, e2]
        rw [act_keeps c2 hb, ha]; rfl
    | some p =>
      simp only [Option.map_some, Option.bind_some, e1]
      rw [act_keeps c1 ha]
      cases hb : act call b S.s S.l with
      | none => rfl
      | some q =>
        simp only [Option.map_some, Option.bind_some, e2]
        rw [act_keeps c2 hb, ha]
        simp only [Option.map_some]
        have hp := act_keeps c1 ha
        have hq := act_keeps c2 hb
        obtain ⟨p1, p2⟩ := p
        obtain ⟨q1, q2⟩ := q
        simp only at hp hq
        subst hp; subst hq
        rw [res_comm dab]
  · cases ha : act call a S.s S.l with
    | none =>
      cases hb : act call b S.s S.l with
      | none => rfl
      | some q =>
        simp only [Option.map_none, Option.bind_none, Option.map_some, Option.bind_some, e2]
        rw [act_keeps (by omega) hb, ha]; rfl
    | some p =>
      simp only [Option.map_some, Option.bind_some, e1]
      rw [act_rows S.l p.2 c2]
      cases hb : act call b S.s S.l with
      | none => rfl
      | some q =>
        simp only [Option.map_some, Option.bind_some, e2]
        have hq := act_keeps (by omega) hb
        rw [hq, ha]
        simp only [Option.map_some]
        obtain ⟨p1, p2⟩ := p
        obtain ⟨q1, q2⟩ := q
        simp only at hq
        subst hq
        simp only [res]
        cases hda : a.dst <;> cases hdb : b.dst <;> cases p1 <;> cases q1 <;> first | rfl | skip
        rename_i x y u v
        simp only
        rw [put_comm _ (dab x y hda hdb)]
  · cases hb : act call b S.s S.l with
    | none =>
      cases ha : act call a S.s S.l with
      | none => rfl
      | some q =>
        simp only [Option.map_none, Option.bind_none, Option.map_some, Option.bind_some, e1]
        rw [act_keeps (by omega) ha, hb]; rfl
    | some p =>
      simp only [Option.map_some, Option.bind_some, e2]
      rw [act_rows S.l p.2 c1]
      cases ha : act call a S.s S.l with
      | none => rfl
      | some q =>
        simp only [Option.map_some, Option.bind_some, e1]
        have hq := act_keeps (by omega) ha
        rw [hq, hb]
        simp only [Option.map_some]
        obtain ⟨p1, p2⟩ := p
        obtain ⟨q1, q2⟩ := q
        simp only at hq
        subst hq
        simp only [res]
        cases hda : a.dst <;> cases hdb : b.dst <;> cases p1 <;> cases q1 <;> first | rfl | skip
        rename_i x y u v
        simp only
        rw [put_comm _ (dab x y hda hdb)]
theorem mapS_put (f : AV → AV) (l : List (Nat × AV)) (i : Nat) (v : AV) : mapS f (put l i v) = put (mapS f l) i (v.mapR f) := by
  induction l with
  | nil => rfl
  | cons p r ih =>
    obtain ⟨j, u⟩ := p
    simp only [put, mapS]
    cases Nat.blt j i
    · cases Nat.beq i j
      · simp only [cond_false, mapS, ih]
      · rfl
    · rfl
theorem get_mapK (d : Nat) (l : List (Nat × AV)) (j : Nat) : get (mapS (kill1 d) l) j = (get l j).mapR (kill1 d) := get_mapS _ rfl _ _
theorem idx_kill (d : Nat) (u : AV) : idx (u.mapR (kill1 d)) = idx u := by
  cases u with
  | rf e o => simp only [AV.mapR, kill1]; cases Nat.beq e d <;> rfl
  | rs e o n s => simp only [AV.mapR, kill1]; cases Nat.beq e d <;> rfl
  | _ => rfl
def ixD (n : Nat) : Option AV → Option Nat
  | none => some n
  | some v => idx v
theorem ixD_kill (d n : Nat) (o : Option AV) : ixD n (o.map fun u => u.mapR (kill1 d)) = ixD n o := by
  cases o with
  | none => rfl
  | some v => exact idx_kill d v
def cut2 (sz : Nat) (x : AV) (lo hi : Option AV) : Option AV :=
  match x with
  | .sl cs n => (match ixD 0 lo, ixD n hi with | some l, some h => bif Nat.ble l h && Nat.ble h n then some (.sl ((cs.drop (l * sz)).take ((h - l) * sz)) (h - l)) else none | _, _ => none)
  | .z => (match ixD 0 lo, ixD 0 hi with | some 0, some 0 => some .z | _, _ => none)
  | .rs d off n sz' => (match ixD 0 lo, ixD n hi with | some l, some h => bif Nat.beq sz sz' && Nat.ble l h && Nat.ble h n && Nat.blt l n then some (.rs d (off + l * sz) (h - l) sz) else none | _, _ => none)
  | _ => none
theorem slcV_cut (sz : Nat) (x : AV) (lo hi : Option AV) : slcV sz x lo hi none = cut2 sz x lo hi := by
  cases x <;> first | rfl | (cases lo <;> cases hi <;> rfl)
theorem cut_args (d sz : Nat) (y : AV) (lo hi : Option AV) : cut2 sz y (lo.map fun u => u.mapR (kill1 d)) (hi.map fun u => u.mapR (kill1 d)) = cut2 sz y lo hi := by
  unfold cut2
  simp only [ixD_kill]
theorem cut_kill {d sz : Nat} {x v : AV} {lo hi : Option AV} (h : cut2 sz (x.mapR (kill1 d)) (lo.map fun u => u.mapR (kill1 d)) (hi.map fun u => u.mapR (kill1 d)) = some v) : ∃ v', cut2 sz x lo hi = some v' ∧ v'.mapR (kill1 d) = v := by
  rw [cut_args] at h
  cases x with
  | sl cs n =>
    have h : cut2 sz (.sl cs n) lo hi = some v := h
    refine ⟨v, h, ?_⟩
    unfold cut2 at h
    simp only at h
    generalize ixD 0 lo = a at h
    generalize ixD n hi = b at h
    cases a with
    | none => cases h
    | some l =>
      cases b with
      | none => cases h
      | some m =>
        simp only at h
        cases hc : (Nat.ble l m && Nat.ble m n) <;> rw [hc] at h <;> cases h
        rfl
  | z =>
    have h : cut2 sz .z lo hi = some v := h
    refine ⟨v, h, ?_⟩
    unfold cut2 at h
    simp only at h
    split at h <;> cases h
    rfl
  | rs e o n s =>
    have hk : (AV.rs e o n s).mapR (kill1 d) = bif Nat.beq e d then .gone else .rs e o n s := rfl
    rw [hk] at h
    cases hb : Nat.beq e d
    · rw [hb] at h
      have h : cut2 sz (.rs e o n s) lo hi = some v := h
      refine ⟨v, h, ?_⟩
      unfold cut2 at h
      simp only at h
      generalize ixD 0 lo = a at h
      generalize ixD n hi = b at h
      cases a with
      | none => cases h
      | some l =>
        cases b with
        | none => cases h
        | some m =>
          simp only at h
          cases hc : (Nat.beq sz s && Nat.ble l m && Nat.ble m n && Nat.blt l n) <;> rw [hc] at h <;> cases h
          show (bif Nat.beq e d then AV.gone else _) = _
          rw [hb]; rfl
    · rw [hb] at h; cases h
  | rf e o =>
    have hk : (AV.rf e o).mapR (kill1 d) = bif Nat.beq e d then .gone else .rf e o := rfl
    rw [hk] at h
    cases hb : Nat.beq e d <;> rw [hb] at h <;> cases h
  | _ => cases h
theorem const_kill (d : Nat) (c : Value) : constAV c = (constAV c).mapR (kill1 d) := by
  unfold constAV
  split <;> rfl
theorem evalO_kill (d : Nat) (s : List (Nat × AV)) (t : Nat) (v : AV) (x : Operand) (h : ∀ u, x = .tmp u → u ≠ t) : evalO (put (mapS (kill1 d) s) t v) x = (evalO s x).mapR (kill1 d) := by
  rw [evalO_put h]
  cases x with
  | tmp u => exact get_mapK d s u
  | const c =>
    cases c with
    | agg cs => unfold evalO; simp only; cases cs.toList.all flatConst <;> rfl
    | _ => (unfold evalO; exact const_kill d _)
  | _ => rfl
theorem cutB_kill {op : AOp} (hc : cutB op = true) {ρ ρ' : Operand → AV} {d : Nat} (h : ∀ x ∈ opnds op, ρ' x = (ρ x).mapR (kill1 d)) {v : AV} (hv : pureV ρ' op = some v) : ∃ v', pureV ρ op = some v' ∧ v'.mapR (kill1 d) = v := by
  unfold cutB at hc
  split at hc
  · rename_i x
    simp only [pureV, h x (by simp [opnds])] at hv ⊢
    cases hv
    exact ⟨_, rfl, rfl⟩
  · rename_i sz x lo hi
    have hx := h x (by simp [opnds])
    have o : ∀ {y : Option Operand}, (∀ z ∈ y.toList, ρ' z = (ρ z).mapR (kill1 d)) → y.map ρ' = (y.map ρ).map fun u => u.mapR (kill1 d) := fun {y} hy => by
      cases y with
      | none => rfl
      | some z => simp [hy z (by simp)]
    have hlo := o (y := lo) fun z hz => h z (by simp only [opnds, List.mem_cons, List.mem_append]; exact .inr (.inl hz))
    have hhi := o (y := hi) fun z hz => h z (by simp only [opnds, List.mem_cons, List.mem_append]; exact .inr (.inr (.inl hz)))
    simp only [pureV, hx, hlo, hhi, Option.map_none, slcV_cut] at hv ⊢
    exact cut_kill hv
  · cases hc
theorem cutB_cls {op : AOp} (hc : cutB op = true) : op.cls = 0 := by
  unfold cutB at hc
  split at hc <;> first | rfl | cases hc
theorem app_form {call : CallF} {S S1 : St} {dst : Option Nat} {sz bytes : Nat} {x y : Operand} (h : stepK call S dst (.app sz bytes x y) = some S1) :
    ∃ t d v0 L1, dst = some t ∧ S1 = ⟨put (mapS (kill1 d) S.s) t v0, L1⟩ ∧ ∀ S' : St, S'.l = S.l → evalO S'.s x = evalO S.s x → evalO S'.s y = evalO S.s y → stepK call S' dst (.app sz bytes x y) = some ⟨put (mapS (kill1 d) S'.s) t v0, L1⟩ := by
  cases dst with
  | none => cases hx : evalO S.s x <;> simp [stepK, hx] at h
  | some t =>
    cases hx : evalO S.s x with
    | rs d off n sz' =>
      cases off with
      | succ k => simp [stepK, hx] at h
      | zero =>
        simp only [stepK, hx] at h
        cases hl : look S.l d with
        | none => simp [hl] at h
        | some cs =>
          cases hs : srcV S.l sz d (evalO S.s y) with
          | none => simp [hl, hs] at h
          | some p =>
            obtain ⟨vs, m⟩ := p
            simp only [hl, hs] at h
            refine ⟨t, d, .rs d 0 (n + m) sz, put (mapQ (kill1 d) (del S.l d)) d ((bif Nat.beq cs.length (n * sz) then cs else cs.take (n * sz)) ++ vs), rfl, ?_, ?_⟩
            rotate_left
            · intro S' e1 e2 e3
              simp only [stepK, e2, e3, e1, hx, hl, hs]
              revert h
              cases ((Nat.beq sz sz' && !isRef d) && (Nat.ble (n * sz) cs.length && decide ((n + m) * bytes ≤ 140737488355328)))
              · intro h; cases h
              · intro h; simp only [cond_true, St.rootAt, e1]
            · revert h
              cases ((Nat.beq sz sz' && !isRef d) && (Nat.ble (n * sz) cs.length && decide ((n + m) * bytes ≤ 140737488355328)))
              · intro h; cases h
              · intro h; simp only [cond_true, St.rootAt, Option.some.injEq] at h; exact h.symm
    | z =>
      simp only [stepK, hx] at h
      cases hs : srcV S.l sz t (evalO S.s y) with
      | none => simp [hs] at h
      | some p =>
        obtain ⟨vs, m⟩ := p
        simp only [hs] at h
        refine ⟨t, t, .rs t 0 m sz, put (mapQ (kill1 t) (del S.l t)) t vs, rfl, ?_, ?_⟩
        · revert h
          cases decide (m * bytes ≤ 140737488355328)
          · intro h; cases h
          · intro h; simp only [cond_true, St.root, Option.some.injEq] at h; exact h.symm
        · intro S' e1 e2 e3
          simp only [stepK, e2, e3, e1, hx, hs]
          revert h
          cases decide (m * bytes ≤ 140737488355328)
          · intro h; cases h
          · intro h; simp only [cond_true, St.root, e1]
    | _ => simp [stepK, hx] at h
theorem app_behind {call : CallF} {a b : AOper} (h : freeA a b = true) {S S2 : St} (hs : (step call a S).bind (step call b) = some S2) : (step call b S).bind (step call a) = some S2 := by
  obtain ⟨da, opa, ga⟩ := a
  obtain ⟨db, opb, gb⟩ := b
  unfold freeA at h
  cases opa <;> simp only [appLooks] at h <;> first | (cases h; done) | skip
  rename_i sz bytes x y
  simp only [Bool.and_eq_true, Bool.not_eq_true', Option.isNone_iff_eq_none] at h
  obtain ⟨hc, rfl, rfl, h1, h2⟩ := h
  have m1 := meets_of h1
  have m2 := meets_of h2
  have cb := cutB_cls hc
  have sa : ∀ S, step call ⟨da, .app sz bytes x y, none⟩ S = stepK call S da (.app sz bytes x y) := fun S => rfl
  have sb : ∀ S, step call ⟨db, opb, none⟩ S = (pureV (evalO S.s) opb).map (S.putD db) := fun S => by
    simp only [step, wants, cb]
  rw [Option.bind_eq_some_iff] at hs
  obtain ⟨S1, hs1, hs2⟩ := hs
  rw [sa] at hs1
  obtain ⟨t, d, v0, L1, rfl, rfl, hmk⟩ := app_form hs1
  rw [sb, Option.map_eq_some_iff] at hs2
  obtain ⟨v, hv, rfl⟩ := hs2
  have hlk : ∀ z ∈ opnds opb, evalO (put (mapS (kill1 d) S.s) t v0) z = (evalO S.s z).mapR (kill1 d) := fun z hz => evalO_kill d S.s t v0 z fun u hu e => by
    subst hu; subst e
    exact m1 u (by simp [dstA]) (by simp only [looksA, List.mem_append]; exact .inl (.inl (tmpsOf_mem hz)))
  obtain ⟨v', hv', he⟩ := cutB_kill hc hlk hv
  rw [sb, hv']
  simp only [Option.map_some, Option.bind_some]
  rw [sa]
  cases db with
  | none => exact hmk S rfl rfl rfl
  | some u =>
    have hu : u ∉ tmpsOf [x, y] := m2 u (by simp [dstA])
    have hut : u ≠ t := fun e => m1 t (by simp [dstA]) (List.mem_append_right _ (by simp [dstA, e]))
    have nx : ∀ z, z ∈ [x, y] → evalO (put S.s u v') z = evalO S.s z := fun z hz => evalO_put fun w hw e => by
      subst hw; subst e; exact hu (tmpsOf_mem hz)
    have := hmk (S.putD (some u) v') rfl (nx x (by simp)) (nx y (by simp))
    rw [this]
    simp only [St.putD, mapS_put, he]
    rw [put_comm _ hut]
theorem cells_kill {d sz : Nat} {x : AV} {cs : List AV} (h : cellsOf sz (x.mapR (kill1 d)) = some cs) : cellsOf sz x = some cs := by
  cases x with
  | rf e o => exfalso; revert h; simp only [AV.mapR, kill1]; cases Nat.beq e d <;> simp [cellsOf, AV.flat]
  | rs e o n s => exfalso; revert h; simp only [AV.mapR, kill1]; cases Nat.beq e d <;> simp [cellsOf, AV.flat]
  | tp l => exfalso; revert h; simp [AV.mapR, cellsOf, AV.flat]
  | aq l => exfalso; revert h; simp [AV.mapR, cellsOf, AV.flat]
  | fn g l => exfalso; revert h; simp [AV.mapR, cellsOf, AV.flat]
  | _ => exact h
theorem okE_kill {d : Nat} {v : AV} (h : okE v = true) : v.mapR (kill1 d) = v := by cases v <;> first | rfl | cases h
theorem fill_kill {d : Nat} {ρ ρ' : Operand → AV} : ∀ {ps : List (Nat × Nat × Operand)}, (∀ x ∈ ps.map (fun p => p.2.2), ρ' x = (ρ x).mapR (kill1 d)) → ∀ {cs r : List AV}, fillV ρ' ps cs = some r → fillV ρ ps cs = some r
  | [], _, cs, r, h => h
  | (off, sz, x) :: rest, hx, cs, r, h => by
    have h0 := hx x (by simp)
    simp only [fillV, h0] at h ⊢
    cases hc : cellsOf sz ((ρ x).mapR (kill1 d)) with
    | none => simp [hc] at h
    | some vs =>
      rw [cells_kill hc]
      simp only [hc] at h ⊢
      cases hb : Nat.ble (off + sz) cs.length
      · rw [hb] at h; cases h
      · rw [hb] at h
        simp only [cond_true] at h ⊢
        rcases vs with _ | ⟨v, _ | ⟨u, r2⟩⟩ <;> exact fill_kill (fun y hy => hx y (by simp only [List.map_cons, List.mem_cons]; exact .inr hy)) h
theorem pureB_kill {op : AOp} (hc : pureB op = true) {ρ ρ' : Operand → AV} {d : Nat} (h : ∀ x ∈ opnds op, ρ' x = (ρ x).mapR (kill1 d)) {v : AV} (hv : pureV ρ' op = some v) : ∃ v', pureV ρ op = some v' ∧ v'.mapR (kill1 d) = v := by
  unfold pureB at hc
  split at hc
  · exact cutB_kill rfl h hv
  · exact cutB_kill rfl h hv
  · rename_i off x
    simp only [pureV, h x (by simp [opnds])] at hv ⊢
    cases hx : ρ x with
    | rf e o =>
      rw [hx] at hv
      simp only [AV.mapR, kill1] at hv
      cases hb : Nat.beq e d <;> rw [hb] at hv
      · simp only [cond_false, Option.some.injEq] at hv
        subst hv
        exact ⟨_, rfl, by simp only [AV.mapR, kill1, hb, cond_false]⟩
      · cases hv
    | rs e o n s =>
      rw [hx] at hv
      simp only [AV.mapR, kill1] at hv
      cases hb : Nat.beq e d <;> rw [hb] at hv <;> cases hv
    | el cs o => rw [hx] at hv; cases hv; exact ⟨_, rfl, rfl⟩
    | _ => rw [hx] at hv; cases hv
  · rename_i k x
    simp only [pureV, h x (by simp [opnds])] at hv ⊢
    cases hx : ρ x with
    | rf e o => rw [hx] at hv; simp only [AV.mapR, kill1] at hv; cases hb : Nat.beq e d <;> rw [hb] at hv <;> cases hv
    | rs e o n s => rw [hx] at hv; simp only [AV.mapR, kill1] at hv; cases hb : Nat.beq e d <;> rw [hb] at hv <;> cases hv
    | i k' n => rw [hx] at hv; cases hv; exact ⟨_, rfl, rfl⟩
    | _ => rw [hx] at hv; cases hv
  · rename_i m x
    simp only [pureV, h x (by simp [opnds])] at hv ⊢
    cases hx : ρ x with
    | rf e o => rw [hx] at hv; simp only [AV.mapR, kill1] at hv; cases hb : Nat.beq e d <;> rw [hb] at hv <;> cases hv
    | rs e o n s => rw [hx] at hv; simp only [AV.mapR, kill1] at hv; cases hb : Nat.beq e d <;> rw [hb] at hv <;> cases hv
    | el cs o =>
      rw [hx] at hv
      have hv : keepE (partV cs o m) = some v := hv
      refine ⟨v, hv, ?_⟩
      unfold keepE at hv
      split at hv
      · rename_i u hu
        cases hk : okE u <;> rw [hk] at hv <;> cases hv
        exact okE_kill hk
      · cases hv
    | _ => rw [hx] at hv; cases hv
  · rename_i n zero ps
    simp only [pureV] at hv ⊢
    cases hf : fillV ρ' ps (zrep zero n) with
    | none => simp [hf] at hv
    | some cs =>
      simp only [hf, Option.some.injEq] at hv
      subst hv
      have := fill_kill (ρ := ρ) (d := d) (fun x hx => h x (by simpa [opnds] using hx)) hf
      rw [this]
      exact ⟨_, rfl, rfl⟩
  · cases hc
def killsS : List Nat → List (Nat × AV) → List (Nat × AV)
  | [], s => s
  | d :: r, s => killsS r (mapS (kill1 d) s)
def killsL : List Nat → List (Nat × List AV) → List (Nat × List AV)
  | [], l => l
  | d :: r, l => killsL r (mapQ (kill1 d) (del l d))
def killV : List Nat → AV → AV
  | [], v => v
  | d :: r, v => killV r (v.mapR (kill1 d))
theorem kills_form : ∀ (ds : List Nat) (S : St), S.kills ds = ⟨killsS ds S.s, killsL ds S.l⟩
  | [], S => rfl
  | d :: r, S => by rw [St.kills, kills_form r]; rfl
theorem killsS_app : ∀ (a b : List Nat) (s : List (Nat × AV)), killsS (a ++ b) s = killsS b (killsS a s)
  | [], b, s => rfl
  | d :: r, b, s => killsS_app r b (mapS (kill1 d) s)
theorem killsS_put (u : Nat) : ∀ (D : List Nat) (s : List (Nat × AV)) (v : AV), killsS D (put s u v) = put (killsS D s) u (killV D v)
  | [], s, v => rfl
  | d :: r, s, v => by rw [killsS, mapS_put, killsS_put u r]; rfl
theorem evalO_mapK (d : Nat) (s : List (Nat × AV)) (x : Operand) : evalO (mapS (kill1 d) s) x = (evalO s x).mapR (kill1 d) := by
  cases x with
  | tmp u => exact get_mapK d s u
  | const c =>
    cases c with
    | agg cs => unfold evalO; simp only; cases cs.toList.all flatConst <;> rfl
    | _ => (unfold evalO; exact const_kill d _)
  | _ => rfl
theorem pure_kills {op : AOp} (hc : pureB op = true) : ∀ (D : List Nat) (s : List (Nat × AV)) (v : AV), pureV (evalO (killsS D s)) op = some v → ∃ v', pureV (evalO s) op = some v' ∧ killV D v' = v
  | [], s, v, h => ⟨v, h, rfl⟩
  | d :: r, s, v, h => by
    obtain ⟨v1, h1, h2⟩ := pure_kills hc r (mapS (kill1 d) s) v h
    obtain ⟨v', h3, h4⟩ := pureB_kill hc (ρ := evalO s) (d := d) (fun x _ => evalO_mapK d s x) h1
    exact ⟨v', h3, by rw [killV, h4]; exact h2⟩
theorem afterK_form {S S1 : St} {ds ch : List Nat} {lent : List (List AV)} (h : afterK S ds ch lent = some S1) : ∃ D L1, S1 = ⟨killsS D S.s, L1⟩ ∧ ∀ S' : St, S'.l = S.l → afterK S' ds ch lent = some ⟨killsS D S'.s, L1⟩ := by
  unfold afterK at h
  cases hb : backL ds lent with
  | none => rw [hb] at h; cases h
  | some p =>
    obtain ⟨a, b⟩ := p
    rw [hb] at h
    simp only at h
    cases hc : (nodupB (keys a ++ keys b) && allCh (keys b)) with
    | false => rw [hc] at h; cases h
    | true =>
      rw [hc] at h
      simp only [cond_true, Option.some.injEq, kills_form] at h
      refine ⟨ch ++ keys b, _, h.symm, fun S' e => ?_⟩
      unfold afterK
      rw [hb]
      simp only [hc, cond_true, kills_form, e]
theorem takeRows_form (S : St) (rows : List (Nat × List AV)) : S.takeRows rows = ⟨killsS (keys rows) S.s, putRows (killsL (keys rows) S.l) rows⟩ := by
  simp only [St.takeRows, kills_form]
theorem recv_any (d : Nat) (own : List (Nat × Nat)) (r : AV) : ∃ o : Option (List (Nat × List AV) × AV), ∀ S : St, recv S d own r = o.map fun p => (S.takeRows p.1, p.2) := by
  have plainR : ∀ (r : AV), ∃ o : Option (List (Nat × List AV) × AV), ∀ S : St, (match fromRet r with | some v => some (S, v) | none => none) = o.map fun p => (S.takeRows p.1, p.2) := fun r =>
    ⟨(fromRet r).map fun v => ([], v), fun S => by cases fromRet r <;> rfl⟩
  have takeR : ∀ (r : AV), ∃ o : Option (List (Nat × List AV) × AV), ∀ S : St, (match take1 d r with | some (v, rows) => bif nodupB (keys rows) then some (S.takeRows rows, v) else none | none => none) = o.map fun p => (S.takeRows p.1, p.2) := fun r =>
    ⟨match take1 d r with | some (v, rows) => bif nodupB (keys rows) then some (rows, v) else none | none => none, fun S => by
      cases take1 d r with
      | none => rfl
      | some p =>
        obtain ⟨v, rows⟩ := p
        simp only
        cases nodupB (keys rows) <;> rfl⟩
  cases own with
  | nil =>
    obtain ⟨o, ho⟩ := plainR r
    exact ⟨o, fun S => by rw [recv_nil]; exact ho S⟩
  | cons p rest =>
    obtain ⟨j, k⟩ := p
    by_cases h7 : j = 7 ∧ k = 7
    · obtain ⟨rfl, rfl⟩ := h7
      obtain ⟨o, ho⟩ := plainR r
      exact ⟨o, fun S => by rw [recv.eq_1]; exact ho S⟩
    · have hn : j = 7 → k = 7 → False := fun a b => h7 ⟨a, b⟩
      by_cases ht : ∃ l, r = .tp l
      · obtain ⟨l, rfl⟩ := ht
        refine ⟨match l[j]? with
          | some x => bif Nat.blt (d + 1000 * (j + 1)) 1000000 then
              (match take1 (d + 1000 * (j + 1)) x with
               | some (v, rows) => bif plain v && nodupB (keys rows) then (match fromRetL (l.set j .un) with | some vs => some (rows, .tp (vs.set j v)) | none => none) else none
               | none => none) else none
          | none => (fromRet (.tp l)).map fun v => ([], v), fun S => ?_⟩
        rw [recv.eq_2 _ _ _ _ _ _ hn]
        cases l[j]? with
        | none => simp only; cases fromRet (.tp l) <;> rfl
        | some x =>
          simp only
          cases Nat.blt (d + 1000 * (j + 1)) 1000000
          · rfl
          · simp only [cond_true]
            cases take1 (d + 1000 * (j + 1)) x with
            | none => rfl
            | some p =>
              obtain ⟨v, rows⟩ := p
              simp only
              cases plain v && nodupB (keys rows)
              · rfl
              · simp only [cond_true]
                cases fromRetL (l.set j .un) <;> rfl
      · obtain ⟨o, ho⟩ := takeR r
        refine ⟨o, fun S => ?_⟩
        rw [recv.eq_3 _ _ _ _ _ (fun h => by cases h; exact h7 ⟨rfl, rfl⟩) (fun j k l h _ => ht ⟨l, h⟩)]
        exact ho S
theorem recv_form {S S2 : St} {d : Nat} {own : List (Nat × Nat)} {r v : AV} (h : recv S d own r = some (S2, v)) : ∃ D L2, S2 = ⟨killsS D S.s, L2⟩ ∧ ∀ S' : St, S'.l = S.l → recv S' d own r = some (⟨killsS D S'.s, L2⟩, v) := by
  obtain ⟨o, ho⟩ := recv_any d own r
  rw [ho S] at h
  cases o with
  | none => cases h
  | some p =>
    simp only [Option.map_some, Option.some.injEq, Prod.mk.injEq] at h
    obtain ⟨rfl, rfl⟩ := h
    refine ⟨keys p.1, _, takeRows_form S p.1, fun S' e => ?_⟩
    rw [ho S']
    simp only [Option.map_some, takeRows_form, e]
def putO (s : List (Nat × AV)) : Option Nat → Option AV → List (Nat × AV)
  | some d, some v => put s d v
  | _, _ => s
theorem call_form {call : CallF} {S S1 : St} {dst : Option Nat} {f : Operand} {xs : List Operand} {own : List (Nat × Nat)} (h : stepK call S dst (.callK f xs own) = some S1) :
    ∃ D L1 ov, S1 = ⟨putO (killsS D S.s) dst ov, L1⟩ ∧ ∀ S' : St, S'.l = S.l → evalO S'.s f = evalO S.s f → evalL (evalO S'.s) xs = evalL (evalO S.s) xs → stepK call S' dst (.callK f xs own) = some ⟨putO (killsS D S'.s) dst ov, L1⟩ := by
  simp only [stepK] at h
  cases hf : evalO S.s f with
  | fn g caps =>
    rw [hf] at h
    simp only at h
    generalize has : evalL (evalO S.s) xs ++ caps = as at h
    cases hl : lends S.l as with
    | none => rw [hl] at h; cases h
    | some p =>
      obtain ⟨vs, ds, ch⟩ := p
      rw [hl] at h
      simp only at h
      cases hc : ((seesAny (ds ++ ch) as || !nodupB (ds ++ ch)) || !okEnter ds vs) with
      | true => rw [hc] at h; cases h
      | false =>
        rw [hc] at h
        simp only [cond_false] at h
        cases hg : call g vs with
        | none => rw [hg] at h; cases h
        | some R =>
          obtain ⟨r, lent⟩ := R
          rw [hg] at h
          simp only at h
          cases ha : (anyRs as && (hasSl r || hasSlLL lent)) with
          | true => rw [ha] at h; cases h
          | false =>
            rw [ha] at h
            simp only [cond_false] at h
            cases hk : afterK S ds ch lent with
            | none => rw [hk] at h; cases h
            | some S2 =>
              rw [hk] at h
              simp only at h
              obtain ⟨D, L1, rfl, hk'⟩ := afterK_form hk
              cases hs : stays own ch ds lent with
              | false => rw [hs] at h; cases h
              | true =>
                rw [hs] at h
                simp only [cond_true] at h
                cases dst with
                | none =>
                  simp only [Option.some.injEq] at h
                  refine ⟨D, L1, none, h.symm, fun S' e1 e2 e3 => ?_⟩
                  simp only [stepK, e2, hf, e3, has, e1, hl, hc, cond_false, hg, ha, hk' S' e1, hs, cond_true]
                  rfl
                | some d =>
                  simp only at h
                  cases hr : recv ⟨killsS D S.s, L1⟩ d own r with
                  | none => rw [hr] at h; cases h
                  | some q =>
                    obtain ⟨S3, v⟩ := q
                    rw [hr] at h
                    simp only [Option.some.injEq] at h
                    obtain ⟨D2, L2, rfl, hr'⟩ := recv_form hr
                    refine ⟨D ++ D2, L2, some v, ?_, fun S' e1 e2 e3 => ?_⟩
                    · rw [killsS_app]; exact h.symm
                    · simp only [stepK, e2, hf, e3, has, e1, hl, hc, cond_false, hg, ha, hk' S' e1, hs, cond_true]
                      rw [hr' ⟨killsS D S'.s, L1⟩ rfl, killsS_app]
                      rfl
  | _ => rw [hf] at h; cases h
theorem evalO_putO {s : List (Nat × AV)} {dst : Option Nat} {ov : Option AV} {x : Operand} (h : ∀ t w, dst = some t → x = .tmp w → w ≠ t) : evalO (putO s dst ov) x = evalO s x := by
  cases dst with
  | none => rfl
  | some t =>
    cases ov with
    | none => rfl
    | some u => exact evalO_put fun w hw => h t w rfl hw
theorem putO_put {s : List (Nat × AV)} {dst : Option Nat} {ov : Option AV} {u : Nat} {v : AV} (h : ∀ t, dst = some t → u ≠ t) : putO (put s u v) dst ov = put (putO s dst ov) u v := by
  cases dst with
  | none => rfl
  | some t =>
    cases ov with
    | none => rfl
    | some q => exact put_comm _ (h t rfl) v q
theorem call_behind {call : CallF} {a b : AOper} (h : freeB a b = true) {S S2 : St} (hs : (step call a S).bind (step call b) = some S2) : (step call b S).bind (step call a) = some S2 := by
  obtain ⟨da, opa, ga⟩ := a
  obtain ⟨db, opb, gb⟩ := b
  unfold freeB at h
  cases opa <;> simp only [callLooks] at h <;> first | (cases h; done) | skip
  rename_i f xs own
  cases hm8 : m8 own
  rotate_left
  · rw [hm8] at h; cases h
  rw [hm8] at h
  simp only [cond_false] at h
  simp only [Bool.and_eq_true, Bool.not_eq_true', Option.isNone_iff_eq_none] at h
  obtain ⟨hc, rfl, rfl, h1, h2⟩ := h
  have m1 := meets_of h1
  have m2 := meets_of h2
  have cb : opb.cls = 0 := by
    unfold pureB at hc
    split at hc <;> first | rfl | cases hc
  have sa : ∀ S, step call ⟨da, .callK f xs own, none⟩ S = stepK call S da (.callK f xs own) := fun S => by
    show stepC call S da (.callK f xs own) = _
    simp only [stepC, mark8, hm8, cond_false]
  have sb : ∀ S, step call ⟨db, opb, none⟩ S = (pureV (evalO S.s) opb).map (S.putD db) := fun S => by
    simp only [step, wants, cb]
  rw [Option.bind_eq_some_iff] at hs
  obtain ⟨S1, hs1, hs2⟩ := hs
  rw [sa] at hs1
  obtain ⟨D, L1, ov, rfl, hmk⟩ := call_form hs1
  rw [sb, Option.map_eq_some_iff] at hs2
  obtain ⟨v, hv, rfl⟩ := hs2
  have hlk : ∀ z ∈ opnds opb, evalO (putO (killsS D S.s) da ov) z = evalO (killsS D S.s) z := fun z hz => evalO_putO fun t w e1 e2 e3 => by
    subst e1; subst e2; subst e3
    exact m1 w (by simp [dstA]) (by simp only [looksA, List.mem_append]; exact .inl (.inl (tmpsOf_mem hz)))
  have hv2 : pureV (evalO (killsS D S.s)) opb = some v := by rw [← pureV_congr hlk]; exact hv
  obtain ⟨v', hv', he⟩ := pure_kills hc D S.s v hv2
  rw [sb, hv']
  simp only [Option.map_some, Option.bind_some]
  rw [sa]
  cases db with
  | none => exact hmk S rfl rfl rfl
  | some u =>
    have hu : u ∉ tmpsOf (f :: xs) := m2 u (by simp [dstA])
    have nx : ∀ z, z ∈ f :: xs → evalO (put S.s u v') z = evalO S.s z := fun z hz => evalO_put fun w hw e => by
      subst hw; subst e; exact hu (tmpsOf_mem hz)
    have := hmk (S.putD (some u) v') rfl (nx f (by simp)) (evalL_congr fun z hz => nx z (by simp [hz]))
    rw [this]
    simp only [St.putD, killsS_put, he]
    rw [putO_put fun t e1 e2 => m1 t (by simp [dstA, e1]) (List.mem_append_right _ (by simp [dstA, e2]))]
end Zab
namespace Zab
open Go
set_option linter.unusedSimpArgs false
set_option linter.unusedVariables false
def stepsIx (call : CallF) (al : List AOper) : List Nat → St → Option St
  | [], S => some S
  | i :: r, S => match al[i]? with | some o => (step call o S).bind (stepsIx call al r) | none => none
theorem steps_ix {call : CallF} : ∀ (post pre : List AOper) (S : St), stepsIx call (pre ++ post) (List.range' pre.length post.length) S = steps call post S
  | [], pre, S => rfl
  | o :: r, pre, S => by
    simp only [List.length_cons, List.range'_succ, stepsIx, steps]
    rw [List.getElem?_append_right (Nat.le_refl _), Nat.sub_self, List.getElem?_cons_zero]
    simp only
    cases step call o S with
    | none => rfl
    | some S1 =>
      simp only [Option.bind_some]
      have := steps_ix (call := call) r (pre ++ [o]) S1
      simp only [List.append_assoc, List.singleton_append, List.length_append, List.length_singleton] at this
      exact this
theorem stepsIx_first {call : CallF} {al : List AOper} {i : Nat} {o : AOper} (hi : al[i]? = some o) {X : St} : ∀ (pre post : List Nat) (S : St), (∀ p ∈ pre, ∃ b, al[p]? = some b ∧ (free b o || (freeA b o || freeB b o)) = true) → stepsIx call al (pre ++ i :: post) S = some X → stepsIx call al (i :: (pre ++ post)) S = some X
  | [], post, S, _, hx => hx
  | p :: r, post, S, h, hx => by
    obtain ⟨b, hb, hf⟩ := h p (by simp)
    simp only [List.cons_append, stepsIx, hb, hi] at hx ⊢
    rw [Option.bind_eq_some_iff] at hx
    obtain ⟨S1, h1, h2⟩ := hx
    have ih := stepsIx_first (call := call) hi r post S1 (fun q hq => h q (by simp [hq])) h2
    simp only [stepsIx, hi] at ih
    rw [Option.bind_eq_some_iff] at ih
    obtain ⟨S2, h3, h4⟩ := ih
    have h5 : (step call b S).bind (step call o) = some S2 := by rw [h1]; exact h3
    have h6 : (step call o S).bind (step call b) = some S2 := by
      rw [Bool.or_eq_true, Bool.or_eq_true] at hf
      rcases hf with hf | hf | hf
      · rw [← free_comm hf S]; exact h5
      · exact app_behind hf h5
      · exact call_behind hf h5
    rw [Option.bind_eq_some_iff] at h6
    obtain ⟨S3, h7, h8⟩ := h6
    rw [h7]
    simp only [Option.bind_some, h8]
    exact h4
theorem foldl_bits (acc : List Nat) (j : Nat) : ∀ (l : List Edge) (s : Nat), (l.foldl (fun s e => if Region.binds .any e then s ||| 2 ^ e.on ||| acc.getD e.on 0 else s) s).testBit j = true → s.testBit j = true ∨ ∃ e ∈ l, Region.binds .any e = true ∧ (e.on = j ∨ (acc.getD e.on 0).testBit j = true)
  | [], s, h => .inl h
  | e :: r, s, h => by
    simp only [List.foldl_cons] at h
    rcases foldl_bits acc j r _ h with h1 | ⟨e', he, hb, h2⟩
    · cases hb : Region.binds .any e
      · simp only [hb, Bool.false_eq_true, if_false] at h1; exact .inl h1
      · simp only [hb, if_true, Nat.testBit_or, Bool.or_eq_true] at h1
        rcases h1 with (h1 | h1) | h1
        · exact .inl h1
        · rw [Nat.testBit_two_pow] at h1
          exact .inr ⟨e, by simp, hb, .inl (by simpa using h1)⟩
        · exact .inr ⟨e, by simp, hb, .inr h1⟩
    · exact .inr ⟨e', by simp [he], hb, h2⟩
theorem befs_pre : ∀ (l : List Oper) (acc : List Nat) (j : Nat), j < acc.length → (befs l acc).getD j 0 = acc.getD j 0
  | [], acc, j, _ => rfl
  | o :: r, acc, j, h => by
    rw [befs, befs_pre r _ j (by simp; omega)]
    simp [List.getElem?_append_left h]
theorem befs_at : ∀ (l : List Oper) (acc : List Nat) (j : Nat) (h : j < l.length), ∃ acc', (befs l acc).getD (acc.length + j) 0 = maskOf acc' l[j] ∧ (∀ k, k < acc.length + j → acc'.getD k 0 = (befs l acc).getD k 0) ∧ acc'.length = acc.length + j
  | o :: r, acc, 0, _ => ⟨acc, by
      rw [befs, Nat.add_zero, befs_pre r _ _ (by simp)]
      simp, fun k hk => by rw [befs, befs_pre r _ _ (by simp; omega)]; simp [List.getElem?_append_left (show k < acc.length by omega)], by simp⟩
  | o :: r, acc, j + 1, h => by
    obtain ⟨acc', h1, h2, h3⟩ := befs_at r (acc ++ [maskOf acc o]) j (by simpa using h)
    simp only [List.length_append, List.length_singleton] at h1 h2 h3
    refine ⟨acc', ?_, fun k hk => ?_, by omega⟩
    · rw [befs, show acc.length + (j + 1) = acc.length + 1 + j by omega, h1]; rfl
    · rw [befs, h2 k (by omega)]
theorem edges_of : ∀ (l : List Oper) (k : Nat), edgesOk k l = true → ∀ j (h : j < l.length) e, e ∈ l[j].after.toList → Region.binds .any e = true → e.on < k + j
  | o :: r, k, h, 0, _, e, he, hb => by
    simp only [edgesOk, Bool.and_eq_true, List.all_eq_true, Bool.or_eq_true, Bool.not_eq_true', Nat.blt_eq] at h
    rcases h.1 e he with h1 | h1
    · rw [hb] at h1; cases h1
    · simpa using h1
  | o :: r, k, h, j + 1, hj, e, he, hb => by
    simp only [edgesOk, Bool.and_eq_true] at h
    have := edges_of r (k + 1) h.2 j (by simpa using hj) e (by simpa using he) hb
    omega
def Closed (ops : Array Oper) (listed : Array Bool) : Prop := ∀ j, listed.getD j false = true → ∀ o, ops[j]? = some o → ∀ e ∈ o.after.toList, Region.binds .any e = true → listed.getD e.on false = true
theorem bits_listed {ops : Array Oper} {listed : Array Bool} (he : edgesOk 0 ops.toList = true) (hc : Closed ops listed) : ∀ (j : Nat) (o : Oper), ops[j]? = some o → (∀ e ∈ o.after.toList, Region.binds .any e = true → listed.getD e.on false = true) →
    ∀ i, ((befs ops.toList []).getD j 0).testBit i = true → listed.getD i false = true := by
  intro j
  induction j using Nat.strongRecOn with
  | _ j ih =>
    intro o ho hl i hb
    have hj : j < ops.toList.length := by
      have := (Array.getElem?_eq_some_iff.1 ho).1; simpa using this
    obtain ⟨acc', h1, h2, h3⟩ := befs_at ops.toList [] j hj
    simp only [List.length_nil, Nat.zero_add] at h1 h2 h3
    have hoj : ops.toList[j] = o := by
      obtain ⟨_, e⟩ := Array.getElem?_eq_some_iff.1 ho; simpa using e
    rw [h1, hoj] at hb
    rcases foldl_bits acc' i _ 0 hb with hb | ⟨e, he', hbind, hb⟩
    · simp at hb
    · have hlt := edges_of ops.toList 0 he j hj e (by rw [hoj]; exact he') hbind
      rw [Nat.zero_add] at hlt
      have hle := hl e he' hbind
      rcases hb with rfl | hb
      · exact hle
      · rw [h2 e.on hlt] at hb
        have hlt' : e.on < ops.size := by simp at hj; omega
        exact ih e.on hlt ops[e.on] (by simp [hlt']) (fun e2 he2 hb2 => hc e.on hle _ (by simp [hlt']) e2 he2 hb2) i hb
section
variable {C : Ctx} {A K : Nat → Nat} {S : St} {a : Act} {w : World}
theorem cOpers_get {I : Info} {ops : Array Oper} : ∀ {l : List Oper} {al : List AOper}, cOpers I ops l = some al → l.length = al.length ∧ ∀ j (h1 : j < l.length) (h2 : j < al.length), cOper I ops l[j] = some al[j]
  | [], al, h => by simp only [cOpers, Option.some.injEq] at h; subst h; exact ⟨rfl, fun j h => by simp at h⟩
  | o :: r, al, h => by
    simp only [cOpers] at h
    cases ho : cOper I ops o with
    | none => simp [ho] at h
    | some x =>
      cases hr : cOpers I ops r with
      | none => simp [ho, hr] at h
      | some l =>
        simp only [ho, hr, Option.some.injEq] at h
        subst h
        obtain ⟨i1, i2⟩ := cOpers_get hr
        refine ⟨by simp [i1], fun j h1 h2 => ?_⟩
        cases j with
        | zero => exact ho
        | succ j => exact i2 j (by simpa using h1) (by simpa using h2)
structure Same (I : Info) (C : Ctx) : Prop where
  P : I.P = C.E.P
  T : I.T = C.E.T
  np : I.np = C.np
  nt : I.nt = C.nt
  small : C.nt ≤ 1000000
theorem region_seq {I : Info} (hI : Same I C) (hE : EnvOk C.E I.sents) {call : CallF} (hC : CallSound C.E call) {ops : Array Oper} {al : List AOper} (hal : cOpers I ops ops.toList = some al) {Q : Exit → Act → World → Prop} {Sf : St}
    (hQ : ∀ A' K' a' w', Rel C A' K' Sf a' w' → Q .normal a' w') : ∀ (n k : Nat), k + n = ops.size → ∀ {A K : Nat → Nat} {S : St} {a : Act} {w : World}, Rel C A K S a w → stepsIx call al (List.range' k n) S = some Sf → wpOps C.E.P ops Q (List.range' k n) a w := by
  obtain ⟨g1, g2⟩ := cOpers_get hal
  intro n
  induction n with
  | zero => intro k _ A K S a w R h; simp only [List.range', stepsIx, Option.some.injEq] at h; subst h; exact hQ _ _ _ _ R
  | succ n ih =>
    intro k hk A K S a w R h
    simp only [List.range'_succ, stepsIx] at h ⊢
    rw [wpOps_cons]
    have hkl : k < ops.toList.length := by simp; omega
    have hka : k < al.length := by omega
    rw [List.getElem?_eq_getElem hka] at h
    simp only [Option.bind_eq_some_iff] at h
    obtain ⟨S1, h1, h2⟩ := h
    have hop : ops[k]? = some ops.toList[k] := by simp at hkl ⊢
    exact step_sound ⟨hI.P, hI.T, hI.np, hI.nt⟩ hI.small hE hC R hop (g2 k hkl hka) h1 fun A' K' a' w' R' => ih (k + 1) (by omega) R' h2
theorem getD_both {listed : Array Bool} {i : Nat} (h : listed.getD i true = false) : listed.getD i false = false := by
  simp only [Array.getD_eq_getD_getElem?] at h ⊢
  cases hq : listed[i]? with
  | none => rfl
  | some b => rw [hq] at h; simpa using h
theorem ready_iff {ops : Array Oper} {listed : Array Bool} {i : Nat} : i ∈ Region.ready .any ops listed ↔ i < ops.size ∧ listed.getD i true = false ∧ ∃ o, ops[i]? = some o ∧ ∀ e ∈ o.after.toList, Region.binds .any e = true → listed.getD e.on false = true := by
  unfold Region.ready
  simp only [List.mem_filter, List.mem_range, Bool.and_eq_true, Bool.not_eq_true']
  refine and_congr_right fun hi => and_congr_right fun _ => ?_
  rw [Array.getElem?_eq_getElem hi]
  simp only [Option.map_some, Option.getD_some, Option.some.injEq, exists_eq_left', Array.all_eq_true_iff_forall_mem, Bool.or_eq_true, Bool.not_eq_true', Array.mem_toList_iff]
  constructor
  · intro h e he hb
    rcases h e he with h1 | h1
    · rw [hb] at h1; cases h1
    · exact h1
  · intro h e he
    cases hb : Region.binds .any e
    · exact .inl rfl
    · exact .inr (h e he hb)
theorem region_any {I : Info} (hI : Same I C) (hE : EnvOk C.E I.sents) {call : CallF} (hC : CallSound C.E call) {ops : Array Oper} {al : List AOper} (hal : cOpers I ops ops.toList = some al) (hd : drawOk ops al = true) {Q : Exit → Act → World → Prop} {Sf : St}
    (hQ : ∀ A' K' a' w', Rel C A' K' Sf a' w' → Q .normal a' w') : ∀ (fuel : Nat) (listed : Array Bool) (rem : List Nat), rem.Pairwise (· < ·) → (∀ j, j ∈ rem ↔ j < ops.size ∧ listed.getD j true = false) → rem.length = fuel → listed.size = ops.size → Closed ops listed →
    ∀ {A K : Nat → Nat} {S : St} {a : Act} {w : World}, Rel C A K S a w → stepsIx call al rem S = some Sf → wpAny C.E.P .any ops Q fuel listed a w := by
  obtain ⟨g1, g2⟩ := cOpers_get hal
  simp only [drawOk, Bool.and_eq_true] at hd
  obtain ⟨hed, hpairs⟩ := hd
  intro fuel
  induction fuel with
  | zero =>
    intro listed rem hp hm hlen hsz hcl A K S a w R h
    have : rem = [] := List.length_eq_zero_iff.1 hlen
    subst this
    simp only [stepsIx, Option.some.injEq] at h
    subst h
    refine ⟨?_, hQ _ _ _ _ R⟩
    cases hr : Region.ready .any ops listed with
    | nil => rfl
    | cons i r =>
      have : i ∈ Region.ready .any ops listed := by rw [hr]; simp
      obtain ⟨h1, h2, _⟩ := ready_iff.1 this
      exact absurd ((hm i).2 ⟨h1, h2⟩) (by simp)
  | succ fuel ih =>
    intro listed rem hp hm hlen hsz hcl A K S a w R h
    refine ⟨fun hr => ?_, fun i hi => ?_⟩
    · -- the first that is left waits for none
      exfalso
      match rem, hlen with
      | i :: r, _ =>
        obtain ⟨h1, h2⟩ := (hm i).1 (by simp)
        have : i ∈ Region.ready .any ops listed := ready_iff.2 ⟨h1, h2, ops[i], by simp [h1], fun e he hb => by
          have hlt := edges_of ops.toList 0 hed i (by simpa using h1) e (by simpa using he) hb
          rw [Nat.zero_add] at hlt
          cases hq : listed.getD e.on false
          · exfalso
            have hin : e.on < listed.size := by omega
            have : listed.getD e.on true = false := by
              simp only [Array.getD_eq_getD_getElem?, Array.getElem?_eq_getElem hin] at hq ⊢; simpa using hq
            have hmem := (hm e.on).2 ⟨by omega, this⟩
            rcases List.mem_cons.1 hmem with h3 | h3
            · omega
            · have := (List.pairwise_cons.1 hp).1 _ h3; omega
          · rfl⟩
        rw [hr] at this; cases this
    · obtain ⟨h1, h2, o, ho, hpre⟩ := ready_iff.1 hi
      have himem := (hm i).2 ⟨h1, h2⟩
      obtain ⟨pre, post, rfl⟩ := List.append_of_mem himem
      have hial : i < al.length := by simp at g1; omega
      have hpw := List.pairwise_append.1 hp
      have hlt : ∀ p ∈ pre, p < i := fun p hp' => hpw.2.2 p hp' i (by simp)
      have hfirst := stepsIx_first (X := Sf) (call := call) (al := al) (i := i) (o := al[i]) (by simp [hial]) pre post S fun p hp' => by
        have hpi := hlt p hp'
        have hpal : p < al.length := by omega
        refine ⟨al[p], by simp [hpal], ?_⟩
        simp only [pairsOk, List.all_eq_true, List.mem_range, Bool.or_eq_true] at hpairs
        rcases hpairs i hial p hpi with hb | hb
        · exfalso
          have := bits_listed hed hcl i o ho hpre p hb
          have hp2 := ((hm p).1 (by simp [hp'])).2
          rw [getD_both hp2] at this; cases this
        · simpa [hpal, hial] using hb
      replace h := hfirst h
      simp only [stepsIx, List.getElem?_eq_getElem hial, Option.bind_eq_some_iff] at h
      obtain ⟨S1, hs1, hs2⟩ := h
      have hio : ops.toList[i]'(by simpa using h1) = o := by
        obtain ⟨_, e⟩ := Array.getElem?_eq_some_iff.1 ho; simpa using e
      refine step_sound ⟨hI.P, hI.T, hI.np, hI.nt⟩ hI.small hE hC R ho (by rw [← hio]; exact g2 i (by simpa using h1) hial) hs1 fun A' K' a' w' R' => ?_
      have hnodup : ∀ q, q ∈ pre ++ post → q ≠ i := fun q hq e => by
        subst e
        rcases List.mem_append.1 hq with hq | hq
        · have := hlt q hq; omega
        · have := (List.pairwise_cons.1 hpw.2.1).1 q hq; omega
      have hget : ∀ j d, (listed.setIfInBounds i true).getD j d = if j = i then true else listed.getD j d := fun j d => by
        simp only [Array.getD_eq_getD_getElem?, Array.getElem?_setIfInBounds]
        by_cases hji : i = j
        · subst hji
          have : i < listed.size := by omega
          simp [this]
        · simp [hji, show ¬ j = i from fun e => hji e.symm]
      refine ih (listed.setIfInBounds i true) (pre ++ post) ?_ (fun j => ?_) (by simp at hlen ⊢; omega) (by simpa using hsz) ?_ R' hs2
      · refine List.pairwise_append.2 ⟨hpw.1, (List.pairwise_cons.1 hpw.2.1).2, fun p hp' q hq => hpw.2.2 p hp' q (by simp [hq])⟩
      · rw [hget]
        constructor
        · intro hj
          have := (hm j).1 (by rcases List.mem_append.1 hj with h | h <;> simp [h])
          rw [if_neg (hnodup j hj)]
          exact this
        · rintro ⟨h3, h4⟩
          by_cases hji : j = i
          · rw [if_pos hji] at h4; cases h4
          · rw [if_neg hji] at h4
            have := (hm j).2 ⟨h3, h4⟩
            rcases List.mem_append.1 this with h | h
            · simp [h]
            · rcases List.mem_cons.1 h with h | h
              · exact absurd h hji
              · simp [h]
      · intro j hj p hp' e he hb
        rw [hget] at hj ⊢
        by_cases hei : e.on = i
        · rw [if_pos hei]
        · rw [if_neg hei]
          by_cases hji : j = i
          · subst hji
            rw [ho] at hp'; cases hp'
            exact hpre e he hb
          · rw [if_neg hji] at hj
            exact hcl j hj p hp' e he hb
theorem region_sound {I : Info} (hI : Same I C) (hE : EnvOk C.E I.sents) {call : CallF} (hC : CallSound C.E call) {id : Nat} {ops : Array Oper} {draw : Bool} {al : List AOper} (hal : cOpers I ops ops.toList = some al) (hd : (!draw || drawOk ops al) = true) (R : Rel C A K S a w) {Sf : St}
    (h : steps call al S = some Sf) {Q : Exit → Act → World → Prop} (hQ : ∀ A' K' a' w', Rel C A' K' Sf a' w' → Q .normal a' w') : (Code.region id ops draw).wp C.E.P Q a w := by
  obtain ⟨g1, g2⟩ := cOpers_get hal
  have hlen : al.length = ops.size := by simpa using g1.symm
  have hix := steps_ix (call := call) al [] S
  simp only [List.nil_append, List.length_nil] at hix
  rw [h, hlen] at hix
  cases draw with
  | false =>
    refine wp_region ?_
    rw [List.range_eq_range']
    exact region_seq hI hE hC hal hQ ops.size 0 (by omega) R hix
  | true =>
    have hd' : drawOk ops al = true := by simpa using hd
    refine wp_region_any hE.mixed ?_
    refine region_any hI hE hC hal hd' hQ ops.size (Array.replicate ops.size false) (List.range ops.size) List.pairwise_lt_range (fun j => ?_) (by simp) (by simp) ?_ (R.grew (Grew.drew w)) (by rw [List.range_eq_range']; exact hix)
    · simp only [List.mem_range, Array.getD_eq_getD_getElem?]
      constructor
      · intro hj; exact ⟨hj, by simp [hj]⟩
      · exact fun h => h.1
    · intro j hj
      simp only [Array.getD_eq_getD_getElem?] at hj
      exfalso
      by_cases hjl : j < ops.size <;> simp [hjl] at hj
end
end Zab
namespace Zab
open Go
set_option linter.unusedSimpArgs false
set_option linter.unusedVariables false
def exC : Ex → Exit
  | .normal => .normal
  | .ret => .ret
  | .exit id => .exit id
section
variable {C : Ctx}
theorem iter_sound {c : Code} {f : St → Option (Ex × St)} (hf : ∀ {ex : Ex} {S1 S : St} {A K : Nat → Nat} {a : Act} {w : World}, Rel C A K S a w → f S = some (ex, S1) → ∀ Q, (∀ A' K' a' w', Rel C A' K' S1 a' w' → Q (exC ex) a' w') → c.wp C.E.P Q a w)
    {Q : Exit → Act → World → Prop} {ex : Ex} {Sf : St} (hQ : ∀ A' K' a' w', Rel C A' K' Sf a' w' → Q (exC ex) a' w') : ∀ (n : Nat) {S : St} {A K : Nat → Nat} {a : Act} {w : World}, Rel C A K S a w → iter f n S = some (ex, Sf) → Code.rounds C.E.P c Q n a w
  | 0, S, A, K, a, w, R, h => by simp [iter] at h
  | n + 1, S, A, K, a, w, R, h => by
    simp only [iter] at h
    rw [rounds_succ]
    cases hs : f S with
    | none => simp [hs] at h
    | some p =>
      obtain ⟨e1, S1⟩ := p
      refine hf R hs _ fun A' K' a' w' R' => ?_
      rw [hs] at h
      cases e1 with
      | normal => exact iter_sound hf hQ n R' h
      | ret => cases h; exact hQ _ _ _ _ R'
      | exit id => cases h; exact hQ _ _ _ _ R'
theorem code_sound {I : Info} (hI : Same I C) (hE : EnvOk C.E I.sents) {call : CallF} (hC : CallSound C.E call) (n : Nat) : ∀ (c : Code) (h : Heads) (ac : AC) (h' : Heads), cCode I c h = some (ac, h') →
    ∀ (ex : Ex) (Sf S : St) (A K : Nat → Nat) (a : Act) (w : World), Rel C A K S a w → evC call n ac S = some (ex, Sf) → ∀ Q, (∀ A' K' a' w', Rel C A' K' Sf a' w' → Q (exC ex) a' w') → c.wp C.E.P Q a w
  | .skip, h, ac, h', hc => by
    simp only [cCode, Option.some.injEq, Prod.mk.injEq] at hc
    obtain ⟨rfl, _⟩ := hc
    intro ex Sf S A K a w R he Q hQ
    simp only [evC, Option.some.injEq, Prod.mk.injEq] at he
    obtain ⟨rfl, rfl⟩ := he
    exact wp_skip (hQ _ _ _ _ R)
  | .ret, h, ac, h', hc => by
    simp only [cCode, Option.some.injEq, Prod.mk.injEq] at hc
    obtain ⟨rfl, _⟩ := hc
    intro ex Sf S A K a w R he Q hQ
    simp only [evC, Option.some.injEq, Prod.mk.injEq] at he
    obtain ⟨rfl, rfl⟩ := he
    exact wp_ret (hQ _ _ _ _ R)
  | .exit id, h, ac, h', hc => by
    simp only [cCode, Option.some.injEq, Prod.mk.injEq] at hc
    obtain ⟨rfl, _⟩ := hc
    intro ex Sf S A K a w R he Q hQ
    simp only [evC, Option.some.injEq, Prod.mk.injEq] at he
    obtain ⟨rfl, rfl⟩ := he
    exact wp_exit (hQ _ _ _ _ R)
  | .region id ops draw, h, ac, h', hc => by
    simp only [cCode] at hc
    split at hc <;> first | (cases hc; done) | skip
    rename_i l hl
    simp only [Bool.cond_eq_ite] at hc
    split at hc <;> first | (cases hc; done) | skip
    rename_i hd
    intro ex Sf S A K a w R he Q hQ
    have reg : ∀ {S : St}, Rel C A K S a w → evC call n (.reg l) S = some (ex, Sf) → (Code.region id ops draw).wp C.E.P Q a w := by
      intro S R he
      simp only [evC] at he
      split at he <;> first | (cases he; done) | skip
      rename_i S1 hs
      cases he
      exact region_sound hI hE hC hl hd R hs hQ
    split at hc
    · cases hc
      simp only [evC] at he
      split at he <;> first | (cases he; done) | skip
      rename_i S1 hs
      exact reg ((Rel.freezes _ R hs).clean _ _) he
    · cases hc
      exact reg R he
  | .seq x y, h, ac, h', hc => by
    simp only [cCode] at hc
    split at hc <;> first | (cases hc; done) | skip
    rename_i ax h1 hx
    split at hc <;> first | (cases hc; done) | skip
    rename_i ay h2 hy
    cases hc
    intro ex Sf S A K a w R he Q hQ
    simp only [evC] at he
    refine wp_seq ?_
    cases hs : evC call n ax S with
    | none => simp [hs] at he
    | some p =>
      obtain ⟨e1, S1⟩ := p
      refine code_sound hI hE hC n x h ax h1 hx _ _ _ _ _ _ _ R hs _ fun A' K' a' w' R' => ?_
      rw [hs] at he
      cases e1 with
      | normal => exact code_sound hI hE hC n y h1 ay _ hy _ _ _ _ _ _ _ R' he Q hQ
      | ret => cases he; exact hQ _ _ _ _ R'
      | exit id => cases he; exact hQ _ _ _ _ R'
  | .cond c x y, h, ac, h', hc => by
    simp only [cCode] at hc
    split at hc <;> first | (cases hc; done) | skip
    rename_i ax h1 hx
    split at hc <;> first | (cases hc; done) | skip
    rename_i ay h2 hy
    cases hc
    intro ex Sf S A K a w R he Q hQ
    simp only [evC] at he
    split at he <;> first | (cases he; done) | skip
    rename_i t ht
    have hv := R.eval c
    rw [ht] at hv
    refine wp_cond (vrep_bool hv) ?_
    cases t
    · exact code_sound hI hE hC n y h1 ay _ hy _ _ _ _ _ _ _ R he Q hQ
    · exact code_sound hI hE hC n x h ax _ hx _ _ _ _ _ _ _ R he Q hQ
  | .block id x, h, ac, h', hc => by
    simp only [cCode] at hc
    split at hc <;> first | (cases hc; done) | skip
    rename_i ax h1 hx
    cases hc
    intro ex Sf S A K a w R he Q hQ
    simp only [evC] at he
    split at he <;> first | (cases he; done) | skip
    rename_i e1 S1 hs
    cases he
    refine wp_block (code_sound hI hE hC n x h ax _ hx _ _ _ _ _ _ _ R hs _ fun A' K' a' w' R' => ?_)
    cases e1 with
    | normal => exact hQ _ _ _ _ R'
    | ret => exact hQ _ _ _ _ R'
    | exit j =>
      have := hQ _ _ _ _ R'
      simp only [Ex.unblock] at this
      show Exit.inBlock id Q (.exit j) a' w'
      simp only [Exit.inBlock]
      by_cases hj : j = id
      · subst hj; rw [if_pos rfl]; rw [Nat.beq_refl] at this; exact this
      · rw [if_neg hj]
        have hb : Nat.beq j id = false := by rw [← Bool.not_eq_true, Nat.beq_eq]; exact hj
        rw [hb] at this; exact this
  | .loop x, h, ac, h', hc => by
    match h, hc with
    | (ks, kr) :: h, hc =>
      simp only [cCode] at hc
      split at hc <;> first | (cases hc; done) | skip
      rename_i ax h1 hx
      cases hc
      intro ex Sf S A K a w R he Q hQ
      simp only [evC] at he
      refine wp_loop_rounds n (iter_sound (fun {ex S1 S A K a w} R hf Q hQ => ?_) hQ n R he)
      exact code_sound hI hE hC n x h ax _ hx _ _ _ _ _ _ _ (R.clean ks kr) hf Q hQ
    | [], hc => simp [cCode] at hc
  | .rangeFunc .., h, ac, h', hc => by simp [cCode] at hc
  | .scope .., h, ac, h', hc => by simp [cCode] at hc
  | .label .., h, ac, h', hc => by simp [cCode] at hc
  | .goto .., h, ac, h', hc => by simp [cCode] at hc
  | .refuse .., h, ac, h', hc => by simp [cCode] at hc
def resC (tmps : Array Value) : ResultVar → Sem Value
  | .tmp t => pure (tmps.getD t undef)
  | .cell x t => do loadVar t (← asAddr (tmps.getD x undef))
theorem resL_sound {A K : Nat → Nat} {S : St} {a : Act} {w : World} (R : Rel C A K S a w) : ∀ {rs : List ResultVar} {ars : List ARes} {raws : List AV}, cRes C.E.P rs = some ars → resL S ars = some raws →
    ∃ cvs : List Value, (rs.mapM (resC a.tmps)).run C.E.P w = Result.ok cvs w ∧ raws.length = cvs.length ∧
      ∀ j (h1 : j < raws.length) (h2 : j < cvs.length), VRep C.E C.np w (Still C A K S.l w) A K raws[j] cvs[j]
  | [], ars, raws, hc, hr => by
    simp only [cRes, Option.some.injEq] at hc; subst hc
    simp only [resL, Option.some.injEq] at hr; subst hr
    exact ⟨[], by simp, rfl, fun j h => by simp at h⟩
  | .tmp t :: rs, ars, raws, hc, hr => by
    simp only [cRes] at hc
    split at hc <;> first | (cases hc; done) | skip
    rename_i l hl
    cases hc
    simp only [resL, resV] at hr
    split at hr <;> first | (cases hr; done) | skip
    rename_i v vs h1 h2
    cases hr
    cases h1
    obtain ⟨cvs, p1, p2, p3⟩ := resL_sound R hl h2
    refine ⟨a.tmps.getD t undef :: cvs, ?_, by simp [p2], fun j h1 h2 => ?_⟩
    · rw [List.mapM_cons, Sem.run_bind]; simp only [resC, Sem.run_bind, Sem.run_pure, Result.andThen_ok, p1]
    · cases j with
      | zero => exact R.slot t
      | succ j => exact p3 j (by simpa using h1) (by simpa using h2)
  | .cell x t :: rs, ars, raws, hc, hr => by
    simp only [cRes] at hc
    split at hc <;> first | (cases hc; done) | skip
    rename_i m l hm hl
    cases hc
    simp only [resL] at hr
    split at hr <;> first | (cases hr; done) | skip
    rename_i v vs h1 h2
    cases hr
    obtain ⟨cvs, p1, p2, p3⟩ := resL_sound R hl h2
    have hx := R.slot x
    have key : ∃ u, (resC a.tmps (.cell x t)).run C.E.P w = Result.ok u w ∧ VRep C.E C.np w (Still C A K S.l w) A K v u := by
      simp only [resV] at h1
      split at h1 <;> first | (cases h1; done) | skip
      · rename_i d off hX
        rw [hX] at hx
        split at h1 <;> first | (cases h1; done) | skip
        rename_i cs hl
        have hrow := R.row d cs hl
        have hv := vrep_rf hx
        obtain ⟨u, hu, hr⟩ := row_read hm hrow h1
        exact ⟨u, by simp [resC, hv, asAddr, hu], hr⟩
      · rename_i cs off hX
        rw [hX] at hx
        obtain ⟨blk, o', f, hv, hN, hc, h1'⟩ := vrep_el hx
        have ev : ∀ {u : Value}, (loadVar t ⟨blk, o' + off, none⟩).run C.E.P w = .ok u w → (resC a.tmps (.cell x t)).run C.E.P w = Result.ok u w := by
          intro u hu
          simp [resC, hv, asAddr, hu]
        rcases agg_of hm with ⟨rfl, hag⟩ | ⟨n, i, rfl, hi, hs, ⟨d, hu, hd⟩, hag⟩
        · simp only [partV] at h1
          obtain ⟨hj, rfl⟩ := List.getElem?_eq_some_iff.1 h1
          exact ⟨_, ev (by simp [loadVar, hag, hc off hj]), .one (.flat (h1' off hj))⟩
        · simp only [partV] at h1
          cases hb : Nat.ble (off + n) cs.length
          · simp [hb] at h1
          · simp only [hb, cond_true, Option.some.injEq] at h1
            subst h1
            have hle := Nat.le_of_ble_eq_true hb
            refine ⟨.agg ((List.range n).map fun j => f (off + j)).toArray, ev (run_loadVar_mid w blk (o' + off) t _ d (fun j v hv => ?_) hu hd (by simp [hi, hs])), VRep.agL ⟨by simp; omega, fun j p q => ?_⟩⟩
            · obtain ⟨hj, rfl⟩ := List.getElem?_eq_some_iff.1 hv
              simp only [List.length_map, List.length_range] at hj
              have := hc (off + j) (by omega)
              simpa [Nat.add_assoc] using this
            · simp only [List.length_map, List.length_range] at q
              simp only [List.getElem_take, List.getElem_drop, List.getElem_map, List.getElem_range]
              exact h1' _ _
    obtain ⟨u, hu, hv⟩ := key
    refine ⟨u :: cvs, ?_, by simp [p2], fun j h1 h2 => ?_⟩
    · rw [List.mapM_cons, Sem.run_bind, hu]; simp only [Sem.run_bind, Result.andThen_ok, p1, Sem.run_pure]
    · cases j with
      | zero => exact hv
      | succ j => exact p3 j (by simpa using h1) (by simpa using h2)
end
theorem results_run {P : Program} {fn : Func} {tmps : Array Value} {w : World} {cvs : List Value}
    (h : (fn.results.toList.mapM (resC tmps)).run P w = Result.ok cvs w) : (results fn tmps).run P w = Result.ok (oneV cvs) w := by
  have hm : (fn.results.mapM (resC tmps)).run P w = .ok cvs.toArray w := by
    rw [← Array.toArray_toList (xs := fn.results), List.mapM_toArray]
    simp only [Sem.run_map, Array.toArray_toList, h, Result.andThen_ok]
  have e : results fn tmps = (do let vs ← fn.results.mapM (resC tmps); pure (if h : vs.size = 1 then vs[0] else Value.tuple vs)) := by
    unfold results
    congr 1
  rw [e, Sem.run_bind, hm]
  simp only [Result.andThen_ok, Sem.run_pure]
  congr 1
  match cvs with
  | [] => rfl
  | [x] => rfl
  | x :: y :: r => simp [oneV]
theorem fun_sound {E : Env} {sents : List Nat} (hE : EnvOk E sents) {tab : Nat → Option AFun} (htab : ∀ f F, tab f = some F → ∃ fn x, E.P.funcs[f]? = some fn ∧ cFun E.P E.T sents x fn = some F) : ∀ n, CallSound E (evF tab n)
  | 0 => ⟨fun f args r h => by simp [evF] at h, fun f args r h => by simp [evF] at h, fun f args r h => by simp [evF] at h⟩
  | n + 1 => by
    have ih := fun_sound hE htab n
    have inv : ∀ {f : Nat} {args : List AV} {r : Ret}, evF tab (n + 1) f args = some r → ∃ (F : AFun) (fn : Func) (x : FnAnn) (c : Code) (b : AC) (h' : Heads) (rs : List ARes), tab f = some F ∧ E.P.funcs[f]? = some fn ∧ (fn.name == "runtime.NumGoroutine") = false ∧ fn.body = some c ∧
        cCode ⟨E.P, E.T, sents, x.ann, x.pre, fn.params.size + fn.nfree, fn.ntmps⟩ c x.heads = some (b, h') ∧ cRes E.P fn.results.toList = some rs ∧ (fn.params.size + fn.nfree ≤ fn.ntmps ∧ fn.ntmps ≤ 1000000) ∧ F = ⟨b, fn.params.size + fn.nfree, rs⟩ := by
      intro f args r h
      simp only [evF] at h
      split at h <;> first | (cases h; done) | skip
      rename_i F hF
      obtain ⟨fn, x, h1, h2⟩ := htab f F hF
      unfold cFun at h2
      split at h2 <;> first | (cases h2; done) | skip
      rename_i c hb
      simp only [Bool.cond_eq_ite] at h2
      split at h2 <;> first | (cases h2; done) | skip
      rename_i hn
      split at h2 <;> first | (cases h2; done) | skip
      rename_i b h' rs hc hr
      split at h2 <;> first | (cases h2; done) | skip
      rename_i hle
      cases h2
      exact ⟨_, fn, x, c, b, h', rs, hF, h1, by simpa using hn, hb, hc, hr, by simpa [Bool.and_eq_true, Nat.ble_eq] using hle, rfl⟩
    refine ⟨fun f args r h => ?_, fun f args r h => ?_, fun f args r h w M X A K cargs R hsz => ?_⟩
    · obtain ⟨F, fn, x, c, b, h', rs, _, h1, h2, h3, _⟩ := inv h
      exact ⟨fn, c, h1, h2, h3⟩
    · obtain ⟨F, fn, x, c, b, h', rs, hF, h1, h2, h3, h4, h5, h6, rfl⟩ := inv h
      simp only [evF, hF, Bool.cond_eq_ite] at h
      split at h <;> first | (cases h; done) | skip
      rename_i hnp
      have hnp := Nat.eq_of_beq_eq_true hnp
      omega
    · obtain ⟨F, fn, x, c, b, h', rs, hF, h1, h2, h3, h4, h5, h6, rfl⟩ := inv h
      simp only [evF, hF] at h
      simp only [Bool.cond_eq_ite] at h
      split at h <;> first | (cases h; done) | skip
      rename_i hnp
      have hnp := Nat.eq_of_beq_eq_true hnp
      refine calls_of_wp h1 h3 ?_
      have R1 : Rel ⟨E, w, M, X, args.length, fn.ntmps, A, K⟩ A K ⟨enterS 0 args, enterL 0 args⟩ { tmps := cargs ++ Array.replicate (fn.ntmps - cargs.size) undef, defers := [] } w := by
        refine { R with slot := fun i => ?_, tsz := ?_ }
        · have := R.slot i
          have e : (cargs ++ Array.replicate (fn.ntmps - cargs.size) undef).getD i undef = cargs.getD i undef := by
            simp only [Array.getD_eq_getD_getElem?, Array.getElem?_append]
            split
            · rfl
            · rename_i hi
              rw [Array.getElem?_eq_none (xs := cargs) (by omega)]
              simp only [Option.getD_none, Array.getElem?_replicate]
              split <;> rfl
          show VRep _ _ _ _ _ _ _ ((cargs ++ Array.replicate (fn.ntmps - cargs.size) undef).getD i undef)
          rw [e]; exact this
        · show (cargs ++ Array.replicate (fn.ntmps - cargs.size) undef).size = fn.ntmps
          simp; omega
      have main : ∀ (ex : Ex) (Sf : St), evC (evF tab n) n b ⟨enterS 0 args, enterL 0 args⟩ = some (ex, Sf) → (ex = .normal ∨ ex = .ret) → fin ⟨b, fn.params.size + fn.nfree, rs⟩ args Sf = some r →
          c.wp E.P (bodyPost E.P fn fun e w' => ∃ cv, e = .returned cv ∧ Out E w M X A K args r cv w') { tmps := cargs ++ Array.replicate (fn.ntmps - cargs.size) undef, defers := [] } w := by
        intro ex Sf he hex hfin
        refine code_sound (C := ⟨E, w, M, X, args.length, fn.ntmps, A, K⟩) ⟨rfl, rfl, hnp.symm, rfl, h6.2⟩ hE ih n c x.heads b h' h4 _ _ _ _ _ _ _ R1 he _ fun A' K' a' w' R' => ?_
        unfold fin at hfin
        split at hfin <;> first | (cases hfin; done) | skip
        rename_i raws hraws
        split at hfin <;> first | (cases hfin; done) | skip
        rename_i rets hh ss lent h2' hrets hlent
        simp only [Bool.cond_eq_ite] at hfin
        split at hfin <;> first | (cases hfin; done) | skip
        rename_i hok
        cases hfin
        obtain ⟨cvs, q1, q2, q3⟩ := resL_sound R' h5 hraws
        have hrun := results_run q1
        have hpost : a'.defers = [] ∧ ∃ v, (results fn a'.tmps).run E.P w' = .ok v w' ∧ ∃ cv, Ending.returned v = .returned cv ∧ Out E w M X A K args ⟨one rets, lent⟩ cv w' :=
          ⟨R'.defers, _, hrun, _, rfl, ⟨⟨Sf, a', A', K', fn.ntmps, raws, rets, cvs, hh, ss, h2', R', q2, q3, by rw [hnp]; exact hrets, hlent, by rw [hnp]; exact hok, rfl, rfl⟩⟩⟩
        rcases hex with rfl | rfl <;> exact hpost
      cases he : evC (evF tab n) n b ⟨enterS 0 args, enterL 0 args⟩ with
      | none => simp [he] at h
      | some p =>
        obtain ⟨ex, Sf⟩ := p
        rw [he] at h
        cases ex with
        | normal => exact main _ _ he (.inl rfl) h
        | ret => exact main _ _ he (.inr rfl) h
        | exit id => cases h
end Zab
namespace Zab
open Go
set_option linter.unusedVariables false
def CallLe (c d : CallF) : Prop := ∀ f xs r, c f xs = some r → d f xs = some r
theorem CallLe.rfl' {c : CallF} : CallLe c c := fun _ _ _ h => h
theorem readV_mono {c d : CallF} (hle : CallLe c d) {ρ : Operand → AV} {l : List (Nat × List AV)} {o : AOp} {v : AV} (h : readV c ρ l o = some v) : readV d ρ l o = some v := by
  cases o with
  | call f xs =>
    simp only [readV] at h ⊢
    split at h <;> first | (cases h; done) | skip
    split at h <;> first | (cases h; done) | skip
    split at h <;> first | (cases h; done) | skip
    rename_i e
    rw [hle _ _ _ e]
    exact h
  | load m x => cases x <;> exact h
  | _ => exact h
theorem stepK_mono {c d : CallF} (hle : CallLe c d) {S : St} {dst : Option Nat} {o : AOp} {S1 : St} (h : stepK c S dst o = some S1) : stepK d S dst o = some S1 := by
  cases o with
  | callK f xs own =>
    simp only [stepK] at h ⊢
    split at h <;> first | (cases h; done) | skip
    split at h <;> first | (cases h; done) | skip
    simp only [Bool.cond_eq_ite] at h ⊢
    split at h <;> first | (cases h; done) | skip
    rename_i hs
    rw [if_neg hs]
    split at h <;> first | (cases h; done) | skip
    rename_i e
    rw [hle _ _ _ e]
    exact h
  | _ => exact h
theorem stepC_mono {c d : CallF} (hle : CallLe c d) {S : St} {dst : Option Nat} {o : AOp} {S1 : St} (h : stepC c S dst o = some S1) : stepC d S dst o = some S1 := by
  unfold stepC at h ⊢
  cases hm : mark8 o with
  | none => rw [hm] at h; exact stepK_mono hle h
  | some p =>
    obtain ⟨f, xs, own⟩ := p
    rw [hm] at h
    simp only at h ⊢
    cases hf : freezes S (rsOf (evalL (evalO S.s) xs)) with
    | none => rw [hf] at h; cases h
    | some S2 => rw [hf] at h; exact stepK_mono hle h
theorem step_mono {c d : CallF} (hle : CallLe c d) {o : AOper} {S S1 : St} (h : step c o S = some S1) : step d o S = some S1 := by
  unfold step at h ⊢
  split at h
  · rename_i hw
    split at h
    · exact h
    · rename_i hc
      cases hr : readV c (evalO S.s) S.l o.op with
      | none => simp [hr] at h
      | some v => rw [hr] at h; rw [readV_mono hle hr]; exact h
    · exact h
    · exact stepC_mono hle h
  · exact h
  · cases h
theorem steps_mono {c d : CallF} (hle : CallLe c d) : ∀ {os : List AOper} {S S1 : St}, steps c os S = some S1 → steps d os S = some S1
  | [], S, S1, h => h
  | o :: r, S, S1, h => by
    simp only [steps] at h ⊢
    split at h <;> first | (cases h; done) | skip
    rename_i S2 e
    rw [step_mono hle e]
    exact steps_mono hle h
theorem iter_mono {f g : St → Option (Ex × St)} (hfg : ∀ S r, f S = some r → g S = some r) : ∀ {n m : Nat}, n ≤ m → ∀ {S : St} {r : Ex × St}, iter f n S = some r → iter g m S = some r
  | 0, m, _, S, r, h => by cases h
  | n + 1, 0, hle, S, r, h => by omega
  | n + 1, m + 1, hle, S, r, h => by
    simp only [iter] at h ⊢
    cases hs : f S with
    | none => rw [hs] at h; cases h
    | some p =>
      rw [hs] at h
      rw [hfg _ _ hs]
      obtain ⟨e, S1⟩ := p
      cases e with
      | normal => exact iter_mono hfg (by omega) h
      | ret => exact h
      | exit id => exact h
theorem evC_mono {c d : CallF} (hle : CallLe c d) {n m : Nat} (hnm : n ≤ m) : ∀ {a : AC} {S : St} {r : Ex × St}, evC c n a S = some r → evC d m a S = some r
  | .skip, S, r, h => h
  | .ret, S, r, h => h
  | .exit id, S, r, h => h
  | .reg ops, S, r, h => by
    simp only [evC] at h ⊢
    split at h <;> first | (cases h; done) | skip
    rename_i S1 e
    rw [steps_mono hle e]; exact h
  | .seq a b, S, r, h => by
    simp only [evC] at h ⊢
    cases hs : evC c n a S with
    | none => rw [hs] at h; cases h
    | some p =>
      rw [hs] at h
      rw [evC_mono hle hnm hs]
      obtain ⟨e, S1⟩ := p
      cases e with
      | normal => exact evC_mono hle hnm h
      | ret => exact h
      | exit id => exact h
  | .cond o a b, S, r, h => by
    simp only [evC] at h ⊢
    split at h <;> first | (cases h; done) | skip
    rename_i t _
    cases t
    · exact evC_mono hle hnm (a := b) h
    · exact evC_mono hle hnm (a := a) h
  | .block id a, S, r, h => by
    simp only [evC] at h ⊢
    split at h <;> first | (cases h; done) | skip
    rename_i e
    rw [evC_mono hle hnm e]; exact h
  | .loop ks kr a, S, r, h => by
    simp only [evC] at h ⊢
    exact iter_mono (fun S r h => evC_mono hle hnm h) hnm h
  | .pre fr ks kr a, S, r, h => by
    simp only [evC] at h ⊢
    split at h <;> first | (cases h; done) | skip
    exact evC_mono hle hnm h
theorem evF_succ {tab : Nat → Option AFun} : ∀ n, CallLe (evF tab n) (evF tab (n + 1))
  | 0 => fun f xs r h => by cases h
  | n + 1 => fun f xs r h => by
    rw [evF] at h ⊢
    split at h <;> first | (cases h; done) | skip
    rename_i A _
    cases hb : Nat.beq xs.length A.np <;> rw [hb] at h <;> first | (cases h; done) | skip
    simp only [cond_true] at h ⊢
    split at h <;> first | (cases h; done) | skip
    all_goals rename_i e; rw [evC_mono (evF_succ n) (by omega) e]; exact h
theorem evF_le {tab : Nat → Option AFun} {n : Nat} : ∀ {m : Nat}, n ≤ m → CallLe (evF tab n) (evF tab m)
  | 0, h => by cases Nat.le_zero.1 h; exact .rfl'
  | m + 1, h => by
    by_cases e : n = m + 1
    · subst e; exact .rfl'
    · exact fun f xs r hr => evF_succ m _ _ _ (evF_le (by omega : n ≤ m) _ _ _ hr)
open Classical in
noncomputable def FF (tab : Nat → Option AFun) : CallF := fun f xs =>
  if h : ∃ r n, evF tab n f xs = some r then some h.choose else none
theorem FF_of {tab : Nat → Option AFun} {n f : Nat} {xs : List AV} {r : Ret} (h : evF tab n f xs = some r) : FF tab f xs = some r := by
  unfold FF
  have h' : ∃ r n, evF tab n f xs = some r := ⟨r, n, h⟩
  rw [dif_pos h']
  obtain ⟨m, hm⟩ := h'.choose_spec
  have h1 := evF_le (Nat.le_max_left n m) _ _ _ h
  have h2 := evF_le (Nat.le_max_right n m) _ _ _ hm
  rw [h1] at h2
  cases h2
  rfl
theorem FF_inv {tab : Nat → Option AFun} {f : Nat} {xs : List AV} {r : Ret} (h : FF tab f xs = some r) : ∃ n, evF tab n f xs = some r := by
  unfold FF at h
  split at h
  · rename_i h'
    obtain ⟨m, hm⟩ := h'.choose_spec
    cases h
    exact ⟨m, hm⟩
  · cases h
theorem readV_FF {tab : Nat → Option AFun} {ρ : Operand → AV} {l : List (Nat × List AV)} {o : AOp} {v : AV} (h : readV (FF tab) ρ l o = some v) : ∃ n, readV (evF tab n) ρ l o = some v := by
  cases o with
  | call f xs =>
    simp only [readV] at h ⊢
    split at h <;> first | (cases h; done) | skip
    split at h <;> first | (cases h; done) | skip
    split at h <;> first | (cases h; done) | skip
    rename_i e
    obtain ⟨n, hn⟩ := FF_inv e
    exact ⟨n, by rw [hn]; exact h⟩
  | load m x => cases x <;> exact ⟨0, h⟩
  | _ => exact ⟨0, h⟩
theorem stepK_FF {tab : Nat → Option AFun} {S : St} {dst : Option Nat} {o : AOp} {S1 : St} (h : stepK (FF tab) S dst o = some S1) : ∃ n, stepK (evF tab n) S dst o = some S1 := by
  cases o with
  | callK f xs own =>
    simp only [stepK] at h ⊢
    split at h <;> first | (cases h; done) | skip
    split at h <;> first | (cases h; done) | skip
    simp only [Bool.cond_eq_ite] at h ⊢
    split at h <;> first | (cases h; done) | skip
    rename_i hs
    split at h <;> first | (cases h; done) | skip
    rename_i e
    obtain ⟨n, hn⟩ := FF_inv e
    exact ⟨n, by rw [if_neg hs, hn]; exact h⟩
  | _ => exact ⟨0, h⟩
theorem stepC_FF {tab : Nat → Option AFun} {S : St} {dst : Option Nat} {o : AOp} {S1 : St} (h : stepC (FF tab) S dst o = some S1) : ∃ n, stepC (evF tab n) S dst o = some S1 := by
  unfold stepC at h ⊢
  cases hm : mark8 o with
  | none => rw [hm] at h; exact stepK_FF h
  | some p =>
    obtain ⟨f, xs, own⟩ := p
    rw [hm] at h
    simp only at h ⊢
    cases hf : freezes S (rsOf (evalL (evalO S.s) xs)) with
    | none => rw [hf] at h; cases h
    | some S2 => rw [hf] at h; exact stepK_FF h
theorem step_FF {tab : Nat → Option AFun} {o : AOper} {S S1 : St} (h : step (FF tab) o S = some S1) : ∃ n, step (evF tab n) o S = some S1 := by
  unfold step at h ⊢
  split at h
  · rename_i hw
    split at h
    · exact ⟨0, h⟩
    · rename_i hc
      cases hr : readV (FF tab) (evalO S.s) S.l o.op with
      | none => simp [hr] at h
      | some v => rw [hr] at h; obtain ⟨n, hn⟩ := readV_FF hr; exact ⟨n, by rw [hn]; exact h⟩
    · exact ⟨0, h⟩
    · exact stepC_FF h
  · exact ⟨0, h⟩
  · cases h
theorem steps_FF {tab : Nat → Option AFun} : ∀ {os : List AOper} {S S1 : St}, steps (FF tab) os S = some S1 → ∃ n, steps (evF tab n) os S = some S1
  | [], S, S1, h => ⟨0, h⟩
  | o :: r, S, S1, h => by
    simp only [steps] at h ⊢
    split at h <;> first | (cases h; done) | skip
    rename_i S2 e
    obtain ⟨n, hn⟩ := step_FF e
    obtain ⟨m, hm⟩ := steps_FF h
    exact ⟨max n m, by rw [step_mono (evF_le (Nat.le_max_left n m)) hn]; exact steps_mono (evF_le (Nat.le_max_right n m)) hm⟩
theorem evC_FF {tab : Nat → Option AFun} (n : Nat) : ∀ {a : AC} {S : St} {r : Ex × St}, evC (FF tab) n a S = some r → ∃ m, evC (evF tab m) m a S = some r
  | .skip, S, r, h => ⟨0, h⟩
  | .ret, S, r, h => ⟨0, h⟩
  | .exit id, S, r, h => ⟨0, h⟩
  | .reg ops, S, r, h => by
    simp only [evC] at h ⊢
    split at h <;> first | (cases h; done) | skip
    rename_i S1 e
    obtain ⟨n, hn⟩ := steps_FF e
    exact ⟨n, by rw [hn]; exact h⟩
  | .seq a b, S, r, h => by
    simp only [evC] at h ⊢
    cases hs : evC (FF tab) n a S with
    | none => rw [hs] at h; cases h
    | some p =>
      rw [hs] at h
      obtain ⟨m, hm⟩ := evC_FF n hs
      obtain ⟨e, S1⟩ := p
      cases e with
      | normal =>
        obtain ⟨m', hm'⟩ := evC_FF n (a := b) h
        refine ⟨max m m', ?_⟩
        rw [evC_mono (evF_le (Nat.le_max_left m m')) (Nat.le_max_left m m') hm]
        exact evC_mono (evF_le (Nat.le_max_right m m')) (Nat.le_max_right m m') hm'
      | ret => exact ⟨m, by rw [hm]; exact h⟩
      | exit id => exact ⟨m, by rw [hm]; exact h⟩
  | .cond o a b, S, r, h => by
    simp only [evC] at h ⊢
    split at h <;> first | (cases h; done) | skip
    rename_i t _
    cases t
    · exact evC_FF n (a := b) h
    · exact evC_FF n (a := a) h
  | .block id a, S, r, h => by
    simp only [evC] at h ⊢
    split at h <;> first | (cases h; done) | skip
    rename_i e
    obtain ⟨m, hm⟩ := evC_FF n e
    exact ⟨m, by rw [hm]; exact h⟩
  | .loop ks kr a, S, r, h => by
    simp only [evC] at h ⊢
    have key : ∀ k {S : St} {r : Ex × St}, iter (fun S => evC (FF tab) n a (S.clean ks kr)) k S = some r → ∃ m, k ≤ m ∧ iter (fun S => evC (evF tab m) m a (S.clean ks kr)) k S = some r := by
      intro k
      induction k with
      | zero => intro S r h; cases h
      | succ k ih =>
        intro S r h
        simp only [iter] at h ⊢
        cases hs : evC (FF tab) n a (S.clean ks kr) with
        | none => rw [hs] at h; cases h
        | some p =>
          rw [hs] at h
          obtain ⟨m, hm⟩ := evC_FF n hs
          obtain ⟨e, S1⟩ := p
          cases e with
          | normal =>
            obtain ⟨m', hk, hm'⟩ := ih h
            refine ⟨max m (m' + 1), by omega, ?_⟩
            have le1 : m ≤ max m (m' + 1) := by omega
            have le2 : m' ≤ max m (m' + 1) := by omega
            rw [evC_mono (evF_le le1) le1 hm]
            exact iter_mono (fun S r h => evC_mono (evF_le le2) le2 h) (Nat.le_refl k) hm'
          | ret =>
            have le1 : m ≤ max m (k + 1) := by omega
            exact ⟨max m (k + 1), by omega, by rw [evC_mono (evF_le le1) le1 hm]; exact h⟩
          | exit id =>
            have le1 : m ≤ max m (k + 1) := by omega
            exact ⟨max m (k + 1), by omega, by rw [evC_mono (evF_le le1) le1 hm]; exact h⟩
    obtain ⟨m, hk, hm⟩ := key n h
    exact ⟨m, iter_mono (fun S r h => h) hk hm⟩
  | .pre fr ks kr a, S, r, h => by
    simp only [evC] at h ⊢
    split at h <;> first | (cases h; done) | skip
    exact evC_FF n (a := a) h
def W (F : CallF) (a : AC) (S : St) (Q : Ex → St → Prop) : Prop := ∃ n e S1, evC F n a S = some (e, S1) ∧ Q e S1
section
variable {F : CallF} {S : St} {Q : Ex → St → Prop}
theorem W.mono {a : AC} {Q' : Ex → St → Prop} (h : W F a S Q) (hq : ∀ e S1, Q e S1 → Q' e S1) : W F a S Q' := by
  obtain ⟨n, e, S1, h1, h2⟩ := h
  exact ⟨n, e, S1, h1, hq _ _ h2⟩
theorem w_skip (h : Q .normal S) : W F .skip S Q := ⟨0, _, _, rfl, h⟩
theorem w_ret (h : Q .ret S) : W F .ret S Q := ⟨0, _, _, rfl, h⟩
theorem w_exit {id : Nat} (h : Q (.exit id) S) : W F (.exit id) S Q := ⟨0, _, _, rfl, h⟩
theorem w_reg {ops : List AOper} {S1 : St} (h : steps F ops S = some S1) (hq : Q .normal S1) : W F (.reg ops) S Q :=
  ⟨0, _, _, by simp only [evC, h], hq⟩
def andThen (F : CallF) (b : AC) (Q : Ex → St → Prop) : Ex → St → Prop
  | .normal, S => W F b S Q
  | e, S => Q e S
theorem w_seq {a b : AC} (h : W F a S (andThen F b Q)) : W F (.seq a b) S Q := by
  obtain ⟨n, e, S1, h1, h2⟩ := h
  cases e with
  | normal =>
    obtain ⟨m, e', S2, h3, h4⟩ := h2
    exact ⟨max n m, e', S2, by simp only [evC]; rw [evC_mono .rfl' (Nat.le_max_left n m) h1]; exact evC_mono .rfl' (Nat.le_max_right n m) h3, h4⟩
  | ret => exact ⟨n, _, _, by simp only [evC, h1], h2⟩
  | exit id => exact ⟨n, _, _, by simp only [evC, h1], h2⟩
theorem w_cond {c : Operand} {a b : AC} {t : Bool} (hc : evalO S.s c = .b t) (h : if t = true then W F a S Q else W F b S Q) : W F (.cond c a b) S Q := by
  cases t
  · obtain ⟨n, e, S1, h1, h2⟩ := h
    exact ⟨n, e, S1, by simp only [evC, hc]; exact h1, h2⟩
  · obtain ⟨n, e, S1, h1, h2⟩ := h
    exact ⟨n, e, S1, by simp only [evC, hc]; exact h1, h2⟩
theorem w_block {id : Nat} {a : AC} (h : W F a S fun e S1 => Q (e.unblock id) S1) : W F (.block id a) S Q := by
  obtain ⟨n, e, S1, h1, h2⟩ := h
  exact ⟨n, _, S1, by simp only [evC, h1], h2⟩
theorem w_pre {fr ks kr : List Nat} {a : AC} {S1 : St} (hf : freezes S fr = some S1) (h : W F a (S1.clean ks kr) Q) : W F (.pre fr ks kr a) S Q := by
  obtain ⟨n, e, S2, h1, h2⟩ := h
  exact ⟨n, e, S2, by simp only [evC, hf]; exact h1, h2⟩
theorem w_loop {ks kr : List Nat} {a : AC} (h : W F a (S.clean ks kr) (andThen F (.loop ks kr a) Q)) : W F (.loop ks kr a) S Q := by
  obtain ⟨n, e, S1, h1, h2⟩ := h
  cases e with
  | normal =>
    obtain ⟨m, e', S2, h3, h4⟩ := h2
    simp only [evC] at h3
    refine ⟨max n m + 1, e', S2, ?_, h4⟩
    simp only [evC, iter]
    rw [evC_mono .rfl' (by omega : n ≤ max n m + 1) h1]
    exact iter_mono (fun S r h => evC_mono .rfl' (by omega : m ≤ max n m + 1) h) (by omega) h3
  | ret =>
    refine ⟨n + 1, _, _, ?_, h2⟩
    simp only [evC, iter]
    rw [evC_mono .rfl' (by omega : n ≤ n + 1) h1]
  | exit id =>
    refine ⟨n + 1, _, _, ?_, h2⟩
    simp only [evC, iter]
    rw [evC_mono .rfl' (by omega : n ≤ n + 1) h1]
theorem w_rounds {ks kr : List Nat} {a : AC} {I : Nat → St → Prop} (hI : ∀ m S, I m S → W F a (S.clean ks kr) fun e S1 => match e with | .normal => ∃ m', m' < m ∧ I m' S1 | e => Q e S1) {m : Nat} (h : I m S) : W F (.loop ks kr a) S Q := by
  induction m using Nat.strongRecOn generalizing S with
  | _ m ih =>
    refine w_loop ((hI m S h).mono fun e S1 h1 => ?_)
    cases e with
    | normal => obtain ⟨m', hm, hi⟩ := h1; exact ih m' hm hi
    | ret => exact h1
    | exit id => exact h1
end
theorem call_of {tab : Nat → Option AFun} {f : Nat} {A : AFun} {xs : List AV} {r : Ret} (hA : tab f = some A) (hn : xs.length = A.np)
    (h : W (FF tab) A.body ⟨enterS 0 xs, enterL 0 xs⟩ fun e S => (match e with | .exit _ => False | _ => True) ∧ fin A xs S = some r) : FF tab f xs = some r := by
  obtain ⟨n, e, S1, h1, h2, h3⟩ := h
  obtain ⟨m, hm⟩ := evC_FF n h1
  refine FF_of (n := m + 1) ?_
  simp only [evF, hA]
  rw [show Nat.beq xs.length A.np = true by rw [hn]; exact Nat.beq_refl _]
  simp only [cond_true]
  rw [hm]
  cases e with
  | normal => exact h3
  | ret => exact h3
  | exit id => exact h2.elim
end Zab
namespace Zab
open Go
set_option linter.unusedVariables false
theorem CallSound.FF {E : Env} {tab : Nat → Option AFun} (h : ∀ n, CallSound E (evF tab n)) : CallSound E (FF tab) :=
  ⟨fun f args r hr => by obtain ⟨n, hn⟩ := FF_inv hr; exact (h n).body f args r hn,
   fun f args r hr => by obtain ⟨n, hn⟩ := FF_inv hr; exact (h n).len f args r hn,
   fun f args r hr => by obtain ⟨n, hn⟩ := FF_inv hr; exact (h n).calls f args r hn⟩
def noOp1 : AV → Bool
  | .op _ | .oq _ | .aq _ | .fn _ (_ :: _) => false
  | _ => true
def noOps : List AV → Bool
  | [] => true
  | x :: r => noOp1 x && noOps r
theorem noOps_get : ∀ {l : List AV}, noOps l = true → ∀ (j : Nat) (h : j < l.length), noOp1 l[j] = true
  | [], h, j, hj => by simp at hj
  | x :: r, h, 0, hj => by simp only [noOps, Bool.and_eq_true] at h; exact h.1
  | x :: r, h, j + 1, hj => by simp only [noOps, Bool.and_eq_true] at h; exact noOps_get h.2 j (by simpa using hj)
theorem noOp1_rows {x : AV} (h : noOp1 x = true) (j : Nat) : argRows j x = [] ∧ slotOf j x = x := by
  cases x with
  | fn f caps =>
    cases caps with
    | nil => exact ⟨rfl, rfl⟩
    | cons => cases h
  | _ => first | (cases h; done) | exact ⟨rfl, rfl⟩
theorem noOp1_rep {E : Env} {np : Nat} {w : World} {N : Nat → Prop} {A K : Nat → Nat} {x : AV} {v : Value} (h : V1 E np w N A K x v) : noOp1 x = true := by
  cases h with
  | flat h => cases h <;> rfl
  | _ => rfl
theorem noOps_rep {E : Env} {np : Nat} {w : World} {N : Nat → Prop} {A K : Nat → Nat} : ∀ {args : List AV} {cargs : List Value}, cargs.length = args.length → (∀ j (h1 : j < args.length) (h2 : j < cargs.length), V1 E np w N A K args[j] cargs[j]) → noOps args = true
  | [], _, _, _ => rfl
  | x :: r, [], h, _ => by simp at h
  | x :: r, v :: vs, h, hv => by
    have h0 := hv 0 (by simp) (by simp)
    simp only [List.getElem_cons_zero] at h0
    have ih := noOps_rep (args := r) (cargs := vs) (by simpa using h) (fun j h1 h2 => hv (j + 1) (Nat.succ_lt_succ h1) (Nat.succ_lt_succ h2))
    simp only [noOps, noOp1_rep h0, ih, Bool.and_true]
theorem noOps_rows : ∀ {l : List AV}, noOps l = true → ∀ j, enterL j l = []
  | [], _, _ => rfl
  | x :: r, h, j => by
    simp only [noOps, Bool.and_eq_true] at h
    simp only [enterL, (noOp1_rows h.1 j).1, noOps_rows h.2, List.append_nil]
theorem law_calls {E : Env} {sents : List Nat} {tab : Nat → Option AFun} (hE : EnvOk E sents)
    (htab : ∀ f F, tab f = some F → ∃ fn x, E.P.funcs[f]? = some fn ∧ cFun E.P E.T sents x fn = some F)
    {f : Nat} {args : List AV} {t : Bool} (h : FF tab f args = some ⟨.b t, []⟩) {W : World} {cargs : Array Value} (hG : GOk E W) (hn : noOps args = true) (hsz : cargs.size = args.length)
    (hv : ∀ j (h1 : j < args.length) (h2 : j < cargs.size), V1 E args.length W (fun b => b < W.heap.size) (fun _ => 0) (fun _ => 0) args[j] cargs[j]) :
    Calls E.P f cargs W fun e W' => e = .returned (.bool t) ∧ RowKit.Below W.heap.size W W' := by
  have hl : ∀ d, look (enterL 0 args) d = none := fun d => by rw [noOps_rows hn]; rfl
  have live : ∀ d, ¬ Live (enterL 0 args) (fun _ => 0) d := fun d hd => hd.1 (hl d)
  have R : Rel ⟨E, W, fun _ => False, fun _ => False, args.length, cargs.size, fun _ => 0, fun _ => 0⟩ (fun _ => 0) (fun _ => 0) ⟨enterS 0 args, enterL 0 args⟩ ⟨cargs, []⟩ W := by
    refine { slot := fun i => ?_, row := fun d cs h => ?_, inj := fun d e h => (live d h).elim, own := fun d h => (live d h).elim, arg := fun d _ h => (h (hl d)).elim, glob := hG, frame := fun _ _ _ => rfl, size := Nat.le_refl _, os := rfl, tape := rfl, output := rfl, defers := rfl, tsz := rfl, xlt := fun _ h => h.elim, npl := (CallSound.FF (fun_sound hE htab)).len f args _ h }
    · show VRep E args.length W _ _ _ (get (enterS 0 args) i) (cargs.getD i undef)
      rw [get_enterS]
      simp only [Nat.zero_le, if_true, Nat.sub_zero]
      by_cases hi : i < args.length
      · have h2 : i < cargs.size := by omega
        have h0 := (VRep.one (hv i hi h2)).mono (N' := Still ⟨E, W, fun _ => False, fun _ => False, args.length, cargs.size, fun _ => 0, fun _ => 0⟩ (fun _ => 0) (fun _ => 0) (enterL 0 args) W) (A' := fun _ => 0) (K' := fun _ => 0)
          (fun b hb => ⟨hb, fun hx => hx, fun d hd => (live d hd).elim⟩) (fun _ _ => rfl) (fun _ _ => ⟨rfl, rfl⟩)
        have e1 : cargs.getD i undef = cargs[i] := by simp [Array.getD_eq_getD_getElem?, h2]
        rw [e1, List.getElem?_eq_getElem hi]
        simp only [(noOp1_rows (noOps_get hn i hi) i).2]
        exact h0
      · rw [List.getElem?_eq_none (by omega)]
        exact .one (.gone _)
    · rw [hl d] at h; cases h
  refine ((CallSound.FF (fun_sound hE htab)).calls f args _ h W _ _ _ _ cargs R hsz).mono fun e W' ⟨cv, he, S, a, A', K', nt, raws, rs, cvs, hh, ss, h', R', hlen, hraws, hret, _, _, hr, hcv⟩ => ?_
  have hb : RowKit.Below W.heap.size W W' := ⟨R'.os, R'.tape, R'.output, R'.size, fun k hk => R'.frame k hk fun h => h⟩
  refine ⟨?_, hb⟩
  subst he hcv
  have hrs : rs = [.b t] := by
    match rs, hr with
    | [], hr => cases hr
    | [x], hr => simp only [one] at hr; subst hr; rfl
    | x :: y :: r, hr => cases hr
  subst hrs
  have hg := (toRets_of hret).get
  match raws, cvs, hg.1, hlen, hraws, hg.2 with
  | [x], [c], _, _, hraws, hg2 =>
    have hx := hraws 0 (by simp) (by simp)
    obtain ⟨_, _, r1, _⟩ := hg2 0 (by simp) (by simp)
    simp only [List.getElem_cons_zero] at hx r1
    have : x = .b t := by
      cases r1
      rfl
    subst this
    rw [vrep_bool hx]; rfl
end Zab
