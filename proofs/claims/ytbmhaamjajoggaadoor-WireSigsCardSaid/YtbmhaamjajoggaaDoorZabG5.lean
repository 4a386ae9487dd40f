/- One operation. No statement of the program stands here. -/
import Derived.Test.YtbmhaamjajoggaaDoorZabG4
import Derived.Test.YtbmhaamjajoggaaDoorZabG1
import Derived.OrdersIn
import Derived.RangeFuncLeaves
import Derived.RangeFuncRecord
import Derived.RangeFuncIn
import Derived.LoopNIn
namespace Zab
open Go
set_option linter.unusedSimpArgs false
set_option linter.unusedVariables false

section
variable {C : Ctx} {A K : Nat → Nat} {S : St} {a : Act} {w : World} {o : Oper}

theorem run_enter {P : Program} {f : FuncId} {fn : Func} {c : Code} (hf : P.funcs[f]? = some fn) (hname : (fn.name == "runtime.NumGoroutine") = false) (hb : fn.body = some c) (args : Array Value) (w : World) :
    (callFunc f args).run P w = .ok (.enter f args) w := by
  have h1 : fn.name ≠ "runtime.NumGoroutine" := by simpa using hname
  simp [callFunc, program, Sem.run, hf, h1, hb]

theorem viewL_lends {l : List (Nat × List AV)} : ∀ {xs vs : List AV}, viewL l xs = some vs → lendPL l xs = some (vs, [], [])
  | [], vs, h => by simp only [viewL, Option.some.injEq] at h; subst h; rfl
  | x :: r, vs, h => by
    have key : ∃ v us, vs = v :: us ∧ viewL l r = some us ∧ lendP l x = some (v, [], []) := by
      unfold viewL at h
      split at h
      · rename_i hh; cases hh
      · rename_i d off n sz r' hh
        cases hh
        split at h <;> first | (cases h; done) | skip
        rename_i v us h1 h2
        cases h
        exact ⟨v, us, rfl, h2, by simp [lendP, h1]⟩
      · rename_i y r' hx hh
        cases hh
        cases hf : x.flat
        · simp [hf] at h
        · simp only [hf, cond_true] at h
          split at h <;> first | (cases h; done) | skip
          rename_i us h2
          cases h
          refine ⟨x, us, rfl, h2, ?_⟩
          cases x <;> first | (cases hf; done) | rfl
    obtain ⟨v, us, rfl, h1, h2⟩ := key
    simp only [lendPL, h2, viewL_lends h1, List.append_nil, List.nil_append]

theorem toArg_lend {l : List (Nat × List AV)} {x v : AV} (h : toArg l x = some v) : lend1 [] l x = some (v, [], []) ∧ (∀ j, argRows j v = [] ∧ rootsA j v = [] ∧ childA j v = []) := by
  by_cases hq : ∃ cs, x = .aq cs
  · obtain ⟨cs, rfl⟩ := hq
    simp only [toArg, Option.map_eq_some_iff] at h
    obtain ⟨vs, h1, rfl⟩ := h
    refine ⟨by simp only [lend1, viewL_lends h1]; rfl, fun j => ⟨rfl, rfl, rfl⟩⟩
  · have hn : ∀ cs, x ≠ .aq cs := fun cs e => hq ⟨cs, e⟩
    refine ⟨?_, fun j => let p := (toArg_plain (mv := []) h hn (fun _ _ _ _ _ => rfl)).1 j; ⟨p.2.1, p.2.2.1, p.2.2.2⟩⟩
    cases x
    case aq cs => exact absurd rfl (hn cs)
    case rf d o => simp [toArg] at h
    case rs d o n sz => simp only [toArg] at h; simp only [lend1, memb, cond_false, h]
    case fn f cs =>
      cases cs with
      | nil => simp only [lend1, h]
      | cons c cs => simp [toArg] at h
    all_goals simp only [lend1, h]

theorem toArgs_of {l : List (Nat × List AV)} : ∀ {xs vs : List AV}, toArgs l xs = some vs → lends [] l xs = some (vs, [], []) ∧ ∀ j, enterL j vs = [] ∧ rootsIn j vs = [] ∧ childIn j vs = []
  | [], vs, h => by simp only [toArgs, Option.some.injEq] at h; subst h; exact ⟨rfl, fun j => ⟨rfl, rfl, rfl⟩⟩
  | x :: r, vs, h => by
    simp only [toArgs] at h
    cases hx : toArg l x with
    | none => simp [hx] at h
    | some v =>
      cases hr : toArgs l r with
      | none => simp [hx, hr] at h
      | some us =>
        simp only [hx, hr, Option.some.injEq] at h
        subst h
        obtain ⟨i1, i2⟩ := toArgs_of hr
        obtain ⟨j1, j2⟩ := toArg_lend hx
        refine ⟨by simp only [lends, j1, i1, List.append_nil], fun j => ?_⟩
        obtain ⟨a1, a2, a3⟩ := j2 j
        obtain ⟨b1, b2, b3⟩ := i2 (j + 1)
        simp [enterL, rootsIn, childIn, a1, a2, a3, b1, b2, b3]

theorem toArg_os {l : List (Nat × List AV)} {x v : AV} (h : toArg l x = some v) : ∀ cs n sz, v ≠ .os cs n sz := by
  intro cs n sz e
  subst e
  cases x
  case rs d o n sz => simp only [toArg] at h; obtain ⟨_, hh⟩ := viewR_sl h; cases hh
  case aq cs => simp only [toArg, Option.map_eq_some_iff] at h; obtain ⟨_, _, hh⟩ := h; cases hh
  case fn f cs => cases cs <;> simp [toArg] at h
  all_goals (simp only [toArg] at h; cases h)

theorem toArgs_os {l : List (Nat × List AV)} : ∀ {xs vs : List AV}, toArgs l xs = some vs → anyOs vs = false
  | [], vs, h => by simp only [toArgs, Option.some.injEq] at h; subst h; rfl
  | x :: r, vs, h => by
    simp only [toArgs] at h
    cases hx : toArg l x with
    | none => simp [hx] at h
    | some v =>
      cases hr : toArgs l r with
      | none => simp [hx, hr] at h
      | some us =>
        simp only [hx, hr, Option.some.injEq] at h
        subst h
        have h1 := toArg_os hx
        have h2 := toArgs_os hr
        cases v <;> first | exact h2 | exact absurd rfl (h1 _ _ _)

theorem sees0Nil : ∀ (as : List AV), sees0 [] as = false
  | [] => rfl
  | x :: r => by cases x <;> simp [sees0, memb, sees0Nil r]
theorem seesNil {mv : List Nat} : ∀ (as : List AV), seesAny mv [] as = false
  | [] => rfl
  | x :: r => by cases x <;> simp [seesAny, memb, seesNil r, sees0Nil]

/-- A call, met. -/
theorem call_sound {mv : List Nat} {call : CallF} (hC : CallSound C.E call) (R : Rel C A K S a w) {c : Call} {f : Operand} (ho : o.op = .call c) (hcal : c.callee = .value f) {fid : Nat} {caps : List AV} (hf : evalO S.s f = .fn fid caps)
    {vs : List AV} {ds ch : List Nat} (L : Lended mv S.l (evalL (evalO S.s) c.args.toList ++ caps) vs ds ch) {r : Ret} (hr : call fid vs = some r)
    (hbare : anyRs mv (evalL (evalO S.s) c.args.toList ++ caps) = true → hasSl r.v = false ∧ hasSlLL r.lent = false) {S1 : St} (haft : afterK S ds ch r.lent = some S1)
    {Kn : Act → World → Prop} {Q : Exit → Act → World → Prop}
    (h : ∀ (nt : Nat) (A' K' : Nat → Nat) (S' : St) (a' : Act) (w' : World) (raws rs : List AV) (cvs : List Value) (hh ss h' : List Nat), Done mv C A K S a w (evalL (evalO S.s) c.args.toList ++ caps) vs ds ch nt A' K' S' a' w' raws rs cvs r.lent hh ss h' S1 →
      r.v = one rs → Kn (a.put o.dst (oneV cvs)) w') : o.wp C.E.P a w Kn Q := by
  obtain ⟨capsV, hfv, hcl, hcaps⟩ := vrep_fn (hf ▸ R.eval f)
  obtain ⟨fn, body, b1, b2, b3⟩ := hC.body fid vs r hr
  have hrun : (execOp a.eval o).run C.E.P w = .ok (.enter fid (c.args.toList.map a.eval ++ capsV).toArray) w := by
    simp only [execOp, ho, resolve, hcal, hfv, Deferred.ofValue, Sem.run_bind, Sem.run_pure, Result.andThen_ok, invoke]
    rw [run_enter b1 b2 b3]
    congr 2
    apply Array.ext'
    simp
  have hlen : (evalL (evalO S.s) c.args.toList ++ caps).length = (c.args.toList.map a.eval ++ capsV).length := by simp [evalL_len, hcl]
  have hvals : ∀ j (h1 : j < (evalL (evalO S.s) c.args.toList ++ caps).length) (h2 : j < (c.args.toList.map a.eval ++ capsV).length),
      VRep C.E C.np w (Still C A K S.l w) A K (evalL (evalO S.s) c.args.toList ++ caps)[j] (c.args.toList.map a.eval ++ capsV)[j] := by
    intro j h1 h2
    by_cases hj : j < (evalL (evalO S.s) c.args.toList).length
    · rw [List.getElem_append_left hj, List.getElem_append_left (by simpa [evalL_len] using hj), evalL_get]
      simpa using R.eval _
    · rw [List.getElem_append_right (by omega), List.getElem_append_right (by simp [evalL_len] at hj ⊢; omega)]
      have e1 : (evalL (evalO S.s) c.args.toList).length = (c.args.toList.map a.eval).length := by simp [evalL_len]
      simp only [← e1]
      exact .one (hcaps _ _ _)
  have hent := enter_rel R hlen hvals L (hC.len fid vs r hr)
  have e1 := L.len
  have hcalls := hC.calls fid vs r hr w (calM A K (ds ++ ch)) (calX mv C A K S.l (evalL (evalO S.s) c.args.toList ++ caps) (ds ++ ch)) (calA A (pIn mv S.l 0 (evalL (evalO S.s) c.args.toList ++ caps))) (calA K (pIn mv S.l 0 (evalL (evalO S.s) c.args.toList ++ caps))) _ hent (by rw [← e1]; simp [evalL_len, hcl])
  unfold Oper.wp
  rw [hrun, Oper.upon_enter]
  refine hcalls.mono ?_
  rintro e w' ⟨cv, rfl, hout⟩
  obtain ⟨S', a', A', K', nt, raws, rs, cvs, hh, ss, h', o1, o2, o3, o4, o5, o6, o7, rfl⟩ := hout.ex
  exact h nt A' K' S' a' w' raws rs cvs hh ss h' ⟨⟨R, L, o1⟩, o2, o3, o4, o5, o6, fun hany => by rw [← o7]; exact hbare hany, haft⟩ o7

/-- What the guard says. -/
theorem wants_sound (R : Rel C A K S a w) {ops : Array Oper} {g : Option (Nat × Bool)} (hg : cGuard ops o = some g) {b : Bool} (h : wants S.s g = some b) : Region.wanted o (yielded ops a.tmps) = b := by
  unfold cGuard at hg
  split at hg
  · rename_i h0
    cases hg
    simp only [wants, Option.some.injEq] at h
    subst h
    simp [Region.wanted, h0]
  · rename_i gi want h0
    split at hg <;> first | (cases hg; done) | skip
    rename_i p hp
    split at hg <;> first | (cases hg; done) | skip
    rename_i d hd
    cases hg
    have hy : yielded ops a.tmps gi = (match a.tmps[d]? with | some (.bool b) => some b | _ => none) := by
      unfold yielded
      rw [hp, Option.bind_some, hd, Option.bind_some]
      cases a.tmps[d]? with
      | none => rfl
      | some u => cases u <;> rfl
    simp only [Region.wanted, h0, hy]
    have hr := R.slot d
    simp only [wants] at h
    split at h
    · rename_i x hx
      rw [hx] at hr
      have hv := vrep_bool hr
      cases h
      rw [Array.getD_eq_getD_getElem?] at hv
      cases hq : a.tmps[d]? with
      | none => rw [hq] at hv; simp [undef] at hv
      | some u => rw [hq] at hv; simp only [Option.getD_some] at hv; subst hv; simp
    · cases h
    · rename_i hx hx2
      cases h
      have hnb : ∀ b, a.tmps.getD d undef ≠ .bool b := by
        intro b hb
        rw [hb] at hr
        generalize get S.s d = X at hr hx hx2
        cases hr with
        | one h1 => cases h1 with
          | flat h2 => cases h2; exact hx _ rfl
          | gone => exact hx2 rfl
      cases hq : a.tmps[d]? with
      | none => simp
      | some u =>
        have : u = a.tmps.getD d undef := by simp [Array.getD_eq_getD_getElem?, hq]
        cases u <;> first | (simp; done) | (rename_i b; exact absurd this.symm (hnb b))

/-- The fences of our walks: all functions; a round's, or none. -/
abbrev Fr (r : Option Nat) : Fence := { Fence.wide with round := r }

theorem calls_fr (r : Option Nat) {n : Nat} {P : Program} {f : FuncId} {args : Array Value} {w : World} {R : Ending → World → Prop} (h : Calls P f args w R) : CallsIn (Fr r) n P f args w R :=
  ⟨trivial, fun cs _ => let ⟨e, w', fr, q, s, x⟩ := h cs; ⟨e, w', fr, q, comesIn_wide.2 s, x⟩⟩
theorem calls_of_fr {r : Option Nat} {n : Nat} {P : Program} {f : FuncId} {args : Array Value} {w : World} {R : Ending → World → Prop} (h : CallsIn (Fr r) n P f args w R) : Calls P f args w R :=
  fun cs => let ⟨e, w', fr, q, s, x⟩ := h.2 cs (room_wide _); ⟨e, w', fr, q, comesIn_wide.1 s, x⟩
theorem rows_fr (r : Option Nat) {n : Nat} {P : Program} {row : String} {args : Array Value} {w : World} {R : Value → World → Prop} (h : Rows P row args w R) : RowsIn (Fr r) n P row args w R :=
  fun c cs _ => let ⟨v, w', q, s⟩ := h c cs; ⟨v, w', q, stepsIn_wide.2 s⟩

theorem oper_fr (r : Option Nat) {n : Nat} {P : Program} {o : Oper} {a : Act} {w : World} {K : Act → World → Prop} {Q : Exit → Act → World → Prop} (hd : ∀ c, o.op ≠ .defer c) (h : o.wp P a w K Q) : o.wpIn (Fr r) n P a w K Q := by
  unfold Oper.wp at h
  refine ⟨fun _ _ => trivial, ?_⟩
  rw [Oper.semAt_eq _ _ _ hd]
  generalize (execOp a.eval o).run P w = q at *
  cases q with
  | ok x w' =>
    cases x <;> simp only [Oper.upon, Oper.uponIn] at h ⊢ <;> first
      | exact h
      | exact ⟨fun hh => by simp [Fence.wide] at hh, (calls_fr r h).mono fun e w he => by cases e <;> exact he⟩
      | exact ⟨fun hh => by simp [Fence.wide] at hh, rows_fr r h⟩
      | exact h.elim
  | halt x w' => cases x <;> simp only [Oper.upon, Oper.uponIn] at h ⊢ <;> exact h

theorem cOp_defer {P : Program} {T : TypeId} {sents : List Nat} {ann : Ann} {op : AOp} (h : cOp P T sents ann o = some op) : ∀ c, o.op ≠ .defer c := by
  intro c e
  simp [cOp, e] at h

/-- What one operation owes. -/
def stepOk (P : Program) (ops : Array Oper) (Q : Exit → Act → World → Prop) (i : Nat) (K : Act → World → Prop) (a : Act) (w : World) : Prop :=
  match ops[i]? with
  | none => K a w
  | some o => if Region.wanted o (yielded ops a.tmps) then o.wp P a w K Q ∧ ∀ c, o.op ≠ .defer c else K (a.put o.dst undef) w

theorem stepOk.fr (r : Option Nat) {n : Nat} {P : Program} {ops : Array Oper} {Q : Exit → Act → World → Prop} {i : Nat} {K : Act → World → Prop} {a : Act} {w : World} (h : stepOk P ops Q i K a w) : wpOpIn (Fr r) n P ops Q i K a w := by
  unfold stepOk at h
  unfold wpOpIn
  cases ho : ops[i]? with
  | none => simp only [ho] at h ⊢; exact h
  | some o =>
    simp only [ho] at h ⊢
    by_cases hw : Region.wanted o (yielded ops a.tmps) = true
    · rw [if_pos hw] at h ⊢; exact oper_fr r h.2 h.1
    · rw [if_neg hw] at h ⊢; exact ⟨fun _ _ => trivial, h⟩

/-- ONE OPERATION. -/
theorem step_sound {I : Info} (hI : I.P = C.E.P ∧ I.T = C.E.T ∧ I.np = C.np ∧ I.nt = C.nt ∧ I.keep = C.ks) (hnt6 : C.nt ≤ 1000000) (hE : EnvOk C.E I.sents) {call : CallF} (hC : CallSound C.E call) (R : Rel C A K S a w) {ops : Array Oper} {i : Nat} (hi : ops[i]? = some o)
    {ao : AOper} (hc : cOper I ops o = some ao) {S' : St} (h : step call ao S = some S') {Kn : Act → World → Prop} {Q : Exit → Act → World → Prop} (hK : ∀ A' K' a' w', Rel C A' K' S' a' w' → Kn a' w') :
    stepOk C.E.P ops Q i Kn a w := by
  obtain ⟨hI1, hI2, hI3, hI4, hI5⟩ := hI
  unfold cOper at hc
  split at hc <;> first | (cases hc; done) | skip
  rename_i op g hop hg
  cases hd : dstOk I.np I.nt I.keep o op
  · simp [hd] at hc
  simp only [hd, cond_true, Option.some.injEq] at hc
  subst hc
  rw [hI1, hI2] at hop
  rw [hI3, hI4, hI5] at hd
  have hdf := cOp_defer hop
  have hdst : ∀ d, o.dst = some d → (d < C.nt ∧ d ∉ C.ks) ∧ (op.cls = 3 → C.np ≤ d ∧ d < 1000000) ∧ op.cls ≠ 2 := by
    intro d hd'
    unfold dstOk at hd
    rw [hd'] at hd
    simp only [Bool.and_eq_true, Nat.blt_eq, Bool.or_eq_true, Nat.ble_eq, Bool.not_eq_true'] at hd
    refine ⟨⟨hd.1.1.1, fun hm => ?_⟩, fun e => ?_, fun e => ?_⟩
    · have := hd.1.1.2; rw [memb_iff.2 hm] at this; cases this
    · rcases hd.1.2 with h | h
      · exact ⟨h, Nat.lt_of_lt_of_le hd.1.1.1 hnt6⟩
      · rw [e] at h; simp at h
    · have := hd.2; rw [e] at this; simp at this
  unfold stepOk
  simp only [hi]
  unfold step at h
  split at h
  · rename_i hw
    rw [if_pos (wants_sound R hg hw)]
    refine ⟨?_, hdf⟩
    have pureCase : ∀ {r : AV}, PureOk C A K S a w o r → S' = S.putD o.dst r → o.wp C.E.P a w Kn Q := by
      rintro r ⟨v, w', h1, h2, h3⟩ rfl
      unfold Oper.wp
      rw [h1, Oper.upon_value]
      exact hK _ _ _ _ ((R.grew h2).putN (fun d hd' => (hdst d hd').1) h3)
    have kCase : KOk C a w o S' → o.wp C.E.P a w Kn Q := by
      rintro ⟨v, w', A', K', h1, h2⟩
      unfold Oper.wp
      rw [h1, Oper.upon_value]
      exact hK _ _ _ _ h2
    split at h
    · rename_i hcls
      simp only [Option.map_eq_some_iff] at h
      obtain ⟨r, hr, rfl⟩ := h
      by_cases hg : ∃ g, op = .ldg g
      · obtain ⟨g, rfl⟩ := hg
        obtain ⟨t, ho, hm, hgl⟩ := ldg_inv hop
        exact pureCase (load_sound (call := call) hE R ho hm (fun g' e => by cases e; exact hgl) hr) rfl
      · by_cases he : ∃ m x, op = .ldE m x
        · obtain ⟨m, x, rfl⟩ := he
          obtain ⟨t, ho, hm, hgl⟩ := ldE_inv hop
          have hr' : readV call (evalO S.s) S.l (.load m x) = some r := by
            cases x with
            | global g => exact absurd rfl (hgl g)
            | _ =>
              simp only [pureV] at hr
              split at hr <;> first | (cases hr; done) | skip
              rename_i cs o' hx'
              simp only [readV, hx']
              exact keepE_some hr
          exact pureCase (load_sound (call := call) hE R ho hm (fun g' e => absurd e (hgl g')) hr') rfl
        · exact pureCase (pure_sound hE R hop (fun g e => hg ⟨g, e⟩) (fun m x e => he ⟨m, x, e⟩) hr) rfl
    · rename_i hcls
      simp only [Option.map_eq_some_iff] at h
      obtain ⟨r, hr, rfl⟩ := h
      cases op <;> first | (cases hcls; done) | skip
      case load m x =>
        obtain ⟨t, ho, hm, hgl⟩ := load_inv hop
        exact pureCase (load_sound hE R ho hm hgl hr) rfl
      case ldR d m x =>
        obtain ⟨t, ho, hm, hgl⟩ := ldR_inv hop
        have hr' : readV call (evalO S.s) S.l (.load m x) = some r := by
          cases x with
          | global g => exact absurd rfl (hgl g)
          | _ =>
            simp only [readV] at hr ⊢
            split at hr <;> first | (cases hr; done) | skip
            rename_i e o' hx'
            simp only [hx']
            cases hb : Nat.beq e d <;> rw [hb] at hr <;> first | (cases hr; done) | exact hr
        exact pureCase (load_sound hE R ho hm (fun g' e => absurd e (hgl g')) hr') rfl
      case call f xs =>
        obtain ⟨c, ho, hcal, rfl⟩ := call_inv hop
        simp only [readV] at hr
        split at hr <;> first | (cases hr; done) | skip
        rename_i fid hf
        cases hta : toArgs S.l (evalL (evalO S.s) c.args.toList) with
        | none => simp [hta] at hr
        | some vs =>
          simp only [hta] at hr
          split at hr <;> first | (cases hr; done) | skip
          rename_i r0 hcall
          simp only [Bool.cond_eq_ite] at hr
          split at hr <;> first | (cases hr; done) | skip
          rename_i hb
          obtain ⟨hl, hl0⟩ := toArgs_of hta
          have ha : evalL (evalO S.s) c.args.toList ++ [] = evalL (evalO S.s) c.args.toList := List.append_nil _
          rw [← ha] at hl hb
          obtain ⟨z1, z2, z3⟩ := hl0 0
          have L : Lended [] S.l (evalL (evalO S.s) c.args.toList ++ []) vs [] [] := ⟨hl, seesNil _, by simp, by simp [okEnter, toArgs_os hta]⟩
          refine call_sound hC R ho hcal hf L hcall (fun hany => ⟨?_, rfl⟩) (S1 := S) rfl (fun nt A' K' S2 a' w' raws rs cvs hh ss h' Q h4 => ?_)
          · simp only [Bool.and_eq_true, not_and, Bool.not_eq_true] at hb
            exact hb hany
          · have h4' : r0 = one rs := h4
            obtain ⟨A1, K1, hrel, hv⟩ := Q.byValue (by rw [← h4']; exact hr)
            exact hK _ _ _ _ (hrel.putN (fun d hd' => (hdst d hd').1) hv)
    · rename_i hcls
      simp only [Option.map_eq_some_iff] at h
      obtain ⟨l', hl', rfl⟩ := h
      cases op <;> first | (cases hcls; done) | skip
      rename_i sz x v
      obtain ⟨t, ho, hz⟩ := store_inv hop
      obtain ⟨w', h1, h2⟩ := store_sound R ho hz hl'
      unfold Oper.wp
      rw [h1, Oper.upon_skip]
      have hnone : o.dst = none := by
        cases hd' : o.dst with
        | none => rfl
        | some d => exact absurd hcls (hdst d hd').2.2
      rw [hnone]
      exact hK _ _ _ _ h2
    · rename_i hc0 hc1 hc2
      have hnp : ∀ d, o.dst = some d → op.cls = 3 → C.np ≤ d ∧ d < 1000000 := fun d hd' => (hdst d hd').2.1
      cases op <;> first | (exact absurd rfl hc0) | (exact absurd rfl hc1) | (exact absurd rfl hc2) | skip
      case box sz v =>
        obtain ⟨e, k, ho, rfl⟩ := box_inv hop
        simp only [stepC, mark8, stepK] at h
        split at h <;> first | (cases h; done) | skip
        rename_i d cs hd' hcs
        cases h
        exact kCase (k_box R ho hd' (hnp d hd' rfl) (hdst d hd').1 hcs)
      case alloc zs =>
        obtain ⟨e, ho, hz⟩ := alloc_inv hop
        simp only [stepC, mark8, stepK] at h
        split at h <;> first | (cases h; done) | skip
        rename_i d hd'
        cases h
        exact kCase (k_alloc R ho hd' (hnp d hd' rfl) (hdst d hd').1 hz)
      case boxQ sz v nils =>
        obtain ⟨e, k, ho, rfl⟩ := boxQ_inv hop
        simp only [stepC, mark8, stepK] at h
        split at h <;> first | (cases h; done) | skip
        rename_i d cs hd' hcs
        exact kCase (k_boxQ R ho hd' (hnp d hd' rfl) (hdst d hd').1 hcs h)
      case allocQ zs nils =>
        obtain ⟨e, ho, hz, hpos⟩ := allocQ_inv hop
        simp only [stepC, mark8, stepK] at h
        split at h <;> first | (cases h; done) | skip
        rename_i d hd'
        exact kCase (k_allocQ R ho hd' (hnp d hd' rfl) (hdst d hd').1 hz h hpos)
      case appN zs b x y =>
        obtain ⟨c, t, u, e, k, sz, b', ho, hcal, hargs, hty, h1, h2, h3, h4, h5, h6, rfl⟩ := appN_inv hop
        simp only [stepC, mark8, stepK] at h
        split at h <;> first | (cases h; done) | skip
        rename_i d n hd' hX hY
        simp only [Bool.cond_eq_ite] at h
        split at h <;> first | (cases h; done) | skip
        rename_i hb
        simp only [Bool.and_eq_true, decide_eq_true_eq] at hb
        cases h
        exact kCase (k_appN R ho hcal hargs hty (isSliceT_of h1) h2 h3 h4 h5 h6 hd' (hnp d hd' rfl) (hdst d hd').1 hX hY hb.1 hb.2)
      case mkR zs b l c =>
        obtain ⟨t, e, sz, b', ho, h1, h2, h3, h4, h5, rfl⟩ := mkR_inv hop
        simp only [stepC, mark8, stepK] at h
        split at h <;> first | (cases h; done) | skip
        rename_i d n m hd' hn hm
        simp only [Bool.cond_eq_ite] at h
        split at h <;> first | (cases h; done) | skip
        rename_i hb
        simp only [Bool.and_eq_true, decide_eq_true_eq] at hb
        cases h
        exact kCase (k_mkR R ho hd' (hnp d hd' rfl) (hdst d hd').1 (isSliceT_of h1) h2 h3 h4 h5 hn hm hb.1 hb.2.1 hb.2.2)
      case bslR n zs ps =>
        obtain ⟨t, e, sz, parts, ho, h1, h2, h3, h4, h5, rfl⟩ := bslR_inv hop
        simp only [stepC, mark8, stepK] at h
        split at h <;> first | (cases h; done) | skip
        rename_i d cs hd' hcs
        cases h
        exact kCase (k_bslR R ho hd' (hnp d hd' rfl) (hdst d hd').1 (isSliceT_of h1) h2 h3 h4 h5 hcs)
      case nilR sz x =>
        have ho := nilR_inv hop
        simp only [stepC, mark8, stepK] at h
        split at h <;> first | (cases h; done) | skip
        rename_i d hd' hx
        cases h
        exact kCase (k_nilR R ho hd' (hnp d hd' rfl) (hdst d hd').1 hx)
      case app sz b x y =>
        obtain ⟨c, t, u, e, e', k, b', v, ho, hcal, hargs, hty, h1, h2, h3, h4, h5, h6, rfl, rfl⟩ := app_inv hop
        simp only [stepC, mark8, stepK] at h
        split at h <;> first | (cases h; done) | skip
        · rename_i td d n sz' hd' hX
          split at h <;> first | (cases h; done) | skip
          rename_i cs vs m hl hsrc
          simp only [Bool.cond_eq_ite] at h
          split at h <;> first | (cases h; done) | skip
          rename_i hb
          simp only [Bool.and_eq_true, decide_eq_true_eq, Nat.beq_eq, Nat.ble_eq, Bool.not_eq_true'] at hb
          obtain ⟨⟨rfl, hfl⟩, hb1, hb2⟩ := hb
          cases h
          have e0 : (if Nat.beq cs.length (n * (k + 1)) = true then cs else cs.take (n * (k + 1))) = cs.take (n * (k + 1)) := by
            split
            · rename_i hq; rw [← Nat.eq_of_beq_eq_true hq, List.take_length]
            · rfl
          rw [e0] at hK pureCase kCase
          exact kCase (k_app R ho hcal hargs hty (isSliceT_of h1) (isSliceT_of h2) h3 h4 h5 h6 hd' (hdst td hd').1 hX hl hfl hb1 rfl hsrc hb2)
        · rename_i td hd' hX
          split at h <;> first | (cases h; done) | skip
          rename_i vs m hsrc
          simp only [Bool.cond_eq_ite] at h
          split at h <;> first | (cases h; done) | skip
          rename_i hb
          simp only [decide_eq_true_eq] at hb
          cases h
          exact kCase (k_appZ R ho hcal hargs hty (isSliceT_of h1) (isSliceT_of h2) h3 h4 h5 h6 hd' (hnp td hd' rfl) (hdst td hd').1 hX hsrc hb)
      case callK f xs own =>
        obtain ⟨c, ho, hcal, rfl⟩ := callK_inv hop
        have hx : ∃ (S0 : St) (own0 : List (Nat × Nat)), Rel C A K S0 a w ∧ stepK call S0 o.dst (.callK f c.args.toList own0) = some S' := by
          unfold stepC at h
          cases hm : m8 own
          · simp only [mark8, hm, cond_false] at h
            exact ⟨S, own, R, h⟩
          · simp only [mark8, hm, cond_true] at h
            cases hz : freezes S (rsOf (evalL (evalO S.s) c.args.toList)) with
            | none => rw [hz] at h; cases h
            | some S2 => rw [hz] at h; exact ⟨S2, _, Rel.freezes _ R hz, h⟩
        obtain ⟨S0, own0, R0, h0⟩ := hx
        simp only [stepK] at h0
        split at h0 <;> first | (cases h0; done) | skip
        rename_i fid caps hf
        split at h0 <;> first | (cases h0; done) | skip
        rename_i vs ds ch hl
        simp only [Bool.cond_eq_ite] at h0
        split at h0 <;> first | (cases h0; done) | skip
        rename_i hs
        split at h0 <;> first | (cases h0; done) | skip
        rename_i r lent hcall
        split at h0 <;> first | (cases h0; done) | skip
        rename_i hb
        split at h0 <;> first | (cases h0; done) | skip
        rename_i S1 haft
        split at h0 <;> first | (cases h0; done) | skip
        simp only [Bool.or_eq_true, Bool.not_eq_true', not_or, Bool.not_eq_true, Bool.not_eq_false, nodupB_iff] at hs
        replace hs := hs.1
        have L : Lended (mvOf own0) S0.l (evalL (evalO S0.s) c.args.toList ++ caps) vs ds ch := ⟨hl, hs.1.1, hs.1.2, hs.2⟩
        have hb' : anyRs (mvOf own0) (evalL (evalO S0.s) c.args.toList ++ caps) = true → hasSl r = false ∧ hasSlLL lent = false := fun hany => by
          simp only [Bool.and_eq_true, Bool.or_eq_true, not_and, not_or, Bool.not_eq_true] at hb
          exact hb hany
        refine call_sound hC R0 ho hcal hf L hcall hb' haft (fun nt A' K' S2 a' w' raws rs cvs hh ss h0' Q h4 => ?_)
        split at h0
        · rename_i d hd'
          split at h0 <;> first | (cases h0; done) | skip
          rename_i S3 v hrecv
          cases h0
          have h4' : r = one rs := h4
          rw [h4'] at hrecv
          obtain ⟨A2, K2, R2, hv⟩ := Q.recv (hnp d hd' rfl) hrecv
          have hd'' : o.dst = some d := hd'
          rw [hd'']
          exact hK _ _ _ _ (R2.set1 (hdst d hd').1 hv)
        · rename_i hd'
          cases h0
          have hd'' : o.dst = none := hd'
          rw [hd'']
          obtain ⟨A1, K1, R1, _⟩ := Q.after (F := []) (fun x hx => by cases hx)
          exact hK _ _ _ _ R1.rel
  · rename_i hw
    rw [if_neg (by rw [wants_sound R hg hw]; simp)]
    cases h
    exact hK _ _ _ _ (R.putN (fun d hd' => (hdst d hd').1) (.one .un))
  · cases h

end
end Zab

namespace Zab
open Go
set_option linter.unusedSimpArgs false
set_option linter.unusedVariables false

theorem put_comm {α : Type} (l : List (Nat × α)) {i k : Nat} (h : i ≠ k) (v u : α) : put (put l i v) k u = put (put l k u) i v := by
  have lt : ∀ {a b : Nat}, a < b → Nat.blt a b = true := fun h => by simpa [Nat.blt_eq] using h
  have nlt : ∀ {a b : Nat}, ¬ a < b → Nat.blt a b = false := fun h => by rw [← Bool.not_eq_true, Nat.blt_eq]; exact h
  have neq : ∀ {a b : Nat}, a ≠ b → Nat.beq a b = false := fun h => by rw [← Bool.not_eq_true, Nat.beq_eq]; exact h
  induction l with
  | nil =>
    rcases Nat.lt_or_gt_of_ne h with h1 | h1
    · simp [put, lt h1, nlt (Nat.lt_asymm h1), neq h, neq (Ne.symm h)]
    · simp [put, lt h1, nlt (Nat.lt_asymm h1), neq h, neq (Ne.symm h)]
  | cons p r ih =>
    obtain ⟨j, x⟩ := p
    rcases Nat.lt_trichotomy j i with h1 | h1 | h1 <;> rcases Nat.lt_trichotomy j k with h2 | h2 | h2
    · rcases Nat.lt_or_gt_of_ne h with h3 | h3
      · simp [put, lt h1, lt h2, lt h3, nlt (Nat.lt_asymm h3), neq h, neq (Ne.symm h)]
      · simp [put, lt h1, lt h2, lt h3, nlt (Nat.lt_asymm h3), neq h, neq (Ne.symm h)]
    · have h2 := h2.symm; subst h2
      simp [put, lt h1, nlt (Nat.lt_asymm h1), nlt (Nat.lt_irrefl k), neq (Ne.symm h), Nat.beq_refl]
    · have h3 : k < i := by omega
      simp [put, lt h1, lt h3, nlt (Nat.lt_asymm h2), nlt (Nat.lt_asymm h3), neq (Ne.symm h), neq (show k ≠ j by omega)]
    · have h1 := h1.symm; subst h1
      simp [put, lt h2, nlt (Nat.lt_asymm h2), nlt (Nat.lt_irrefl i), neq h, Nat.beq_refl]
    · omega
    · have h1 := h1.symm; subst h1
      simp [put, nlt (Nat.lt_irrefl i), nlt (Nat.lt_asymm h2), Nat.beq_refl, neq (show k ≠ i by omega)]
    · have h3 : i < k := by omega
      simp [put, lt h2, lt h3, nlt (Nat.lt_asymm h1), nlt (Nat.lt_asymm h3), neq h, neq (show i ≠ j by omega)]
    · have h2 := h2.symm; subst h2
      simp [put, nlt (Nat.lt_irrefl k), nlt (Nat.lt_asymm h1), Nat.beq_refl, neq h]
    · simp [put, nlt (Nat.lt_asymm h1), nlt (Nat.lt_asymm h2), neq (show i ≠ j by omega), neq (show k ≠ j by omega), ih]

theorem get_put_ne (l : List (Nat × AV)) {i j : Nat} (h : j ≠ i) (v : AV) : get (put l i v) j = get l j := by
  have lt : ∀ {a b : Nat}, a < b → Nat.blt a b = true := fun h => by simpa [Nat.blt_eq] using h
  have nlt : ∀ {a b : Nat}, ¬ a < b → Nat.blt a b = false := fun h => by rw [← Bool.not_eq_true, Nat.blt_eq]; exact h
  have neq : ∀ {a b : Nat}, a ≠ b → Nat.beq a b = false := fun h => by rw [← Bool.not_eq_true, Nat.beq_eq]; exact h
  induction l with
  | nil => simp [put, get, neq (Ne.symm h)]
  | cons p r ih =>
    obtain ⟨k, x⟩ := p
    rcases Nat.lt_trichotomy k i with h1 | h1 | h1
    · simp [put, lt h1, get, neq (Ne.symm h)]
    · have h1 := h1.symm; subst h1; simp [put, nlt (Nat.lt_irrefl i), Nat.beq_refl, get, neq (Ne.symm h)]
    · simp [put, nlt (Nat.lt_asymm h1), neq (show i ≠ k by omega), get, ih]

theorem meets_of {l m : List Nat} (h : meets l m = false) : ∀ x ∈ l, x ∉ m := by
  have mem : ∀ {ds : List Nat} {d : Nat}, memb ds d = true ↔ d ∈ ds := by
    intro ds d
    induction ds with
    | nil => simp [memb]
    | cons x r ih => simp only [memb, Bool.or_eq_true, ih, List.mem_cons, Nat.beq_eq]; constructor <;> rintro (h | h) <;> simp [h]
  induction l with
  | nil => intro x hx; cases hx
  | cons y r ih =>
    simp only [meets, Bool.or_eq_false_iff] at h
    intro x hx
    rcases List.mem_cons.1 hx with rfl | hx
    · intro hm; rw [← mem] at hm; rw [hm] at h; cases h.1
    · exact ih h.2 x hx

theorem tmpsOf_mem : ∀ {l : List Operand} {t : Nat}, Operand.tmp t ∈ l → t ∈ tmpsOf l
  | x :: r, t, h => by
    rcases List.mem_cons.1 h with h | h
    · subst h; simp [tmpsOf]
    · have := tmpsOf_mem h
      cases x <;> simp [tmpsOf, this]

theorem evalO_put {s : List (Nat × AV)} {d : Nat} {v : AV} {x : Operand} (h : ∀ t, x = .tmp t → t ≠ d) : evalO (put s d v) x = evalO s x := by
  cases x with
  | tmp t => exact get_put_ne _ (h t rfl) _
  | const v => cases v <;> rfl
  | _ => rfl

section
variable {ρ ρ' : Operand → AV}

theorem evalL_congr : ∀ {l : List Operand}, (∀ x ∈ l, ρ x = ρ' x) → evalL ρ l = evalL ρ' l
  | [], _ => rfl
  | x :: r, h => by rw [evalL, evalL, h x (by simp), evalL_congr fun y hy => h y (by simp [hy])]

theorem fillV_congr : ∀ {ps : List (Nat × Nat × Operand)}, (∀ x ∈ ps.map (fun p => p.2.2), ρ x = ρ' x) → ∀ cs, fillV ρ ps cs = fillV ρ' ps cs
  | [], _, _ => rfl
  | (off, sz, x) :: r, h, cs => by
    have hx := h x (by simp)
    have ih := fillV_congr (ps := r) fun y hy => h y (by simp only [List.map_cons, List.mem_cons]; exact .inr hy)
    simp only [fillV, hx]
    cases cellsOf sz (ρ' x) with
    | none => rfl
    | some vs =>
      simp only
      cases Nat.ble (off + sz) cs.length
      · rfl
      · simp only [cond_true]
        split <;> exact ih _

theorem fillQ_congr : ∀ {ps : List (Nat × Nat × Operand)}, (∀ x ∈ ps.map (fun p => p.2.2), ρ x = ρ' x) → ∀ cs, fillQ ρ ps cs = fillQ ρ' ps cs
  | [], _, _ => rfl
  | (off, sz, x) :: r, h, cs => by
    have hx := h x (by simp)
    have ih := fillQ_congr (ps := r) fun y hy => h y (by simp only [List.map_cons, List.mem_cons]; exact .inr hy)
    simp only [fillQ, hx]
    cases cellsQ sz (ρ' x) with
    | none => rfl
    | some vs =>
      simp only
      cases Nat.ble (off + sz) cs.length
      · rfl
      · simp only [cond_true]
        split <;> exact ih _

theorem pureV_congr {op : AOp} (h : ∀ x ∈ opnds op, ρ x = ρ' x) : pureV ρ op = pureV ρ' op := by
  cases op <;> simp only [opnds, List.mem_cons, List.mem_nil_iff, or_false, forall_eq_or_imp, forall_eq] at h
  case build zero ps => simp only [pureV, fillV_congr h]
  case buildQ zero ps => simp only [pureV, fillQ_congr h]
  case bsl n zero ps => simp only [pureV, fillV_congr h]
  case mkfn f l => simp only [pureV, evalL_congr h]
  case mn l => simp only [pureV, evalL_congr h]
  case mx l => simp only [pureV, evalL_congr h]
  case len s x => cases s <;> simp only [pureV, h]
  case slc sz x lo hi mx =>
    obtain ⟨h1, h2⟩ := h
    have o : ∀ {y : Option Operand}, (∀ z ∈ y.toList, ρ z = ρ' z) → y.map ρ = y.map ρ' := fun {y} hy => by
      cases y with
      | none => rfl
      | some z => simp [hy z (by simp)]
    simp only [pureV, h1, o fun z hz => h2 z (by simp at hz ⊢; exact .inl hz), o fun z hz => h2 z (by simp at hz ⊢; exact .inr (.inl hz)), o fun z hz => h2 z (by simp at hz ⊢; exact .inr (.inr hz))]
  all_goals first | rfl | simp only [pureV, h] | (obtain ⟨h1, h2⟩ := h; simp only [pureV, h1, h2]) | (obtain ⟨h1, h2, h3⟩ := h; simp only [pureV, h1, h2, h3])

theorem readV_congr {call : CallF} {l : List (Nat × List AV)} {op : AOp} (h : ∀ x ∈ opnds op, ρ x = ρ' x) : readV call ρ l op = readV call ρ' l op := by
  cases op <;> first | rfl | skip
  case load m x =>
    have := h x (by simp [opnds])
    cases x <;> simp only [readV, this]
  case ldR d m x =>
    have := h x (by simp [opnds])
    simp only [readV, this]
  case call f xs =>
    have h1 := h f (by simp [opnds])
    have h2 := evalL_congr (ρ := ρ) (ρ' := ρ') (l := xs) fun y hy => h y (by simp [opnds, hy])
    simp only [readV, h1, h2]

theorem writeV_congr {l : List (Nat × List AV)} {op : AOp} (h : ∀ x ∈ opnds op, ρ x = ρ' x) : writeV ρ l op = writeV ρ' l op := by
  cases op <;> first | rfl | skip
  case store sz x v =>
    have h1 := h x (by simp [opnds])
    have h2 := h v (by simp [opnds])
    simp only [writeV, h1, h2]
end

def afterL (l : List (Nat × List AV)) (ds ch : List Nat) (lent : List (List AV)) : Option (List (Nat × List AV)) :=
  match backL ds lent with
  | some (a, b) => bif (nodupB (keys a ++ keys b) && allCh (keys b)) && (ch.isEmpty && b.isEmpty) then some (putRows l a) else none
  | none => none

/-- What such a call does: a value, other rows. -/
def kAct (call : CallF) (hasDst : Bool) (f : Operand) (xs : List Operand) (nol : List Nat) (s : List (Nat × AV)) (l : List (Nat × List AV)) : Option (Option AV × List (Nat × List AV)) :=
  match evalO s f with
  | .fn g caps =>
    (match lends [] l (evalL (evalO s) xs ++ caps) with
     | some (vs, ds, ch) =>
       bif ((seesAny [] (ds ++ ch) (evalL (evalO s) xs ++ caps) || !nodupB (ds ++ ch)) || !okEnter ds vs) || !awayB ds nol then none else
         (match call g vs with
          | some ⟨r, lent⟩ =>
            bif anyRs [] (evalL (evalO s) xs ++ caps) && (hasSl r || hasSlLL lent) then none else
              (match afterL l ds ch lent with
               | some l' => bif hasDst then (match fromRet r with | some v => some (some v, l') | none => none) else some (none, l')
               | none => none)
          | none => none)
     | none => none)
  | _ => none

/-- What an operation of the first three classes does: a value for its slot, other rows. -/
def act (call : CallF) (o : AOper) (s : List (Nat × AV)) (l : List (Nat × List AV)) : Option (Option AV × List (Nat × List AV)) :=
  match wants s o.guard with
  | some true =>
    (match isK o.op with
     | some (f, xs) => kAct call o.dst.isSome f xs (nolK o.op) s l
     | none =>
       (match o.op.cls with
        | 0 => (pureV (evalO s) o.op).map fun v => (some v, l)
        | 1 => (readV call (evalO s) l o.op).map fun v => (some v, l)
        | _ => (writeV (evalO s) l o.op).map fun l => (none, l)))
  | some false => some (some .un, l)
  | none => none

def res (S : St) (dst : Option Nat) (p : Option AV × List (Nat × List AV)) : St :=
  { s := match dst, p.1 with | some d, some v => put S.s d v | _, _ => S.s, l := p.2 }

theorem isK_some {op : AOp} {f : Operand} {xs : List Operand} (h : isK op = some (f, xs)) : ∃ own, op = .callK f xs own ∧ mvOf own = [] ∧ unmv own = [] ∧ m8 own = false := by
  unfold isK at h
  split at h
  · rename_i f' xs' own
    simp only [Bool.cond_eq_ite] at h
    split at h <;> first | (cases h; done) | skip
    rename_i hb
    simp only [Bool.and_eq_true, List.isEmpty_iff, Bool.not_eq_true'] at hb
    cases h
    exact ⟨own, rfl, hb.1, hb.2.1, hb.2.2⟩
  · cases h
theorem recv_nil (S : St) (d : Nat) (r : AV) : recv S d [] r = match fromRet r with | some v => some (S, v) | none => none := by
  cases r <;> rfl
theorem after_stays {α : Type} (S : St) (ds ch : List Nat) (lent : List (List AV)) (X : St → Option α) :
    (match afterK S ds ch lent with | some S1 => bif stays [] ch ds lent then X S1 else none | none => none) = (match afterL S.l ds ch lent with | some l' => X { S with l := l' } | none => none) := by
  unfold afterK afterL stays
  cases backL ds lent with
  | none => rfl
  | some p =>
    obtain ⟨a, b⟩ := p
    simp only
    cases nodupB (keys a ++ keys b) && allCh (keys b)
    · rfl
    · simp only [cond_true, Bool.true_and]
      cases ch with
      | cons x r => rfl
      | nil =>
        cases b with
        | cons x r => rfl
        | nil => rfl
theorem kAct_step (call : CallF) (S : St) (dst : Option Nat) (f : Operand) (xs : List Operand) (own : List (Nat × Nat)) (hm : mvOf own = []) (hu : unmv own = []) : stepK call S dst (.callK f xs own) = (kAct call dst.isSome f xs (nolOf own) S.s S.l).map (res S dst) := by
  simp only [stepK, kAct, hm, hu]
  cases evalO S.s f <;> try rfl
  rename_i g caps
  simp only
  generalize evalL (evalO S.s) xs ++ caps = as
  cases lends [] S.l as with
  | none => rfl
  | some p =>
    obtain ⟨vs, ds, ch⟩ := p
    simp only
    cases ((seesAny [] (ds ++ ch) as || !nodupB (ds ++ ch)) || !okEnter ds vs) || !awayB ds (nolOf own)
    · simp only [cond_false]
      cases call g vs with
      | none => rfl
      | some R =>
        obtain ⟨r, lent⟩ := R
        simp only
        cases (anyRs [] as && (hasSl r || hasSlLL lent))
        · simp only [cond_false]
          refine (after_stays S ds ch lent (fun S1 => match dst with | some d => (match recv S1 d [] r with | some (S2, v) => some (S2.putD (some d) v) | none => none) | none => some S1)).trans ?_
          cases afterL S.l ds ch lent with
          | none => rfl
          | some l' =>
            cases dst with
            | none => rfl
            | some d =>
              simp only [recv_nil, Option.isSome_some, cond_true]
              cases fromRet r <;> rfl
        · rfl
    · rfl
theorem step_act {call : CallF} {o : AOper} (h : wcls o.op ≤ 2) (S : St) : step call o S = (act call o S.s S.l).map (res S o.dst) := by
  unfold step act
  cases wants S.s o.guard with
  | none => rfl
  | some b =>
    cases b
    · simp only [Option.map_some, res, St.putD]; cases o.dst <;> rfl
    · cases hk : isK o.op with
      | some p =>
        obtain ⟨f, xs⟩ := p
        obtain ⟨own, e, hm, hu, h8⟩ := isK_some hk
        simp only [e, nolK]
        have hst : stepC call S o.dst (.callK f xs own) = stepK call S o.dst (.callK f xs own) := by unfold stepC; simp only [mark8, h8, cond_false]
        exact hst.trans (kAct_step call S o.dst f xs own hm hu)
      | none =>
        have h' : o.op.cls ≤ 2 := by unfold wcls at h; rw [hk] at h; exact h
        have hc : o.op.cls = 0 ∨ o.op.cls = 1 ∨ o.op.cls = 2 := by omega
        rcases hc with hc | hc | hc
        · simp only [hc, Option.map_map]; congr 1; funext v; simp only [Function.comp, res, St.putD]; cases o.dst <;> rfl
        · simp only [hc, Option.map_map]; congr 1; funext v; simp only [Function.comp, res, St.putD]; cases o.dst <;> rfl
        · simp only [hc, Option.map_map]; congr 1; funext v; simp only [Function.comp, res]; cases o.dst <;> rfl

theorem wants_put {s : List (Nat × AV)} {d : Nat} {v : AV} {g : Option (Nat × Bool)} (h : ∀ t b, g = some (t, b) → t ≠ d) : wants (put s d v) g = wants s g := by
  cases g with
  | none => rfl
  | some p => obtain ⟨t, b⟩ := p; simp only [wants, get_put_ne s (h t b rfl) v]

theorem act_put {call : CallF} {o : AOper} {s : List (Nat × AV)} {l : List (Nat × List AV)} {d : Nat} {v : AV} (h : d ∉ looksA o) : act call o (put s d v) l = act call o s l := by
  have h1 : ∀ x ∈ opnds o.op, evalO (put s d v) x = evalO s x := fun x hx => evalO_put fun t e => by
    subst e
    rintro rfl
    exact h (by simp only [looksA, List.mem_append]; exact .inl (tmpsOf_mem hx))
  have h2 : wants (put s d v) o.guard = wants s o.guard := wants_put fun t b e => by
    rintro rfl
    exact h (by simp only [looksA, List.mem_append, e]; exact .inr (by simp))
  have h3 : ∀ f xs, isK o.op = some (f, xs) → kAct call o.dst.isSome f xs (nolK o.op) (put s d v) l = kAct call o.dst.isSome f xs (nolK o.op) s l := fun f xs hk => by
    obtain ⟨own, e, _⟩ := isK_some hk
    rw [e] at h1
    have hf := h1 f (by simp [opnds])
    have hxs : evalL (evalO (put s d v)) xs = evalL (evalO s) xs := evalL_congr fun x hx => h1 x (by simp [opnds, hx])
    simp only [kAct, hf, hxs]
  unfold act
  rw [h2, pureV_congr h1, readV_congr h1, writeV_congr h1]
  cases hk : isK o.op with
  | none => rfl
  | some p => simp only [h3 p.1 p.2 hk]

theorem wcls_lt {op : AOp} (h : wcls op < 2) : isK op = none ∧ op.cls = wcls op := by
  unfold wcls at *
  cases hk : isK op with
  | none => exact ⟨rfl, rfl⟩
  | some p => rw [hk] at h; simp at h
/-- Class 0 does not look at rows; no class but 2 turns them. -/
theorem act_rows {call : CallF} {o : AOper} {s : List (Nat × AV)} (l l' : List (Nat × List AV)) (h : wcls o.op = 0) : act call o s l' = (act call o s l).map fun p => (p.1, l') := by
  obtain ⟨hk, hc⟩ := wcls_lt (op := o.op) (by omega)
  rw [h] at hc
  unfold act
  cases wants s o.guard with
  | none => rfl
  | some b =>
    cases b
    · rfl
    · simp only [hk, hc, Option.map_map]; congr 1

theorem act_keeps {call : CallF} {o : AOper} {s : List (Nat × AV)} {l : List (Nat × List AV)} {p : Option AV × List (Nat × List AV)} (h : wcls o.op < 2) (ha : act call o s l = some p) : p.2 = l := by
  obtain ⟨hk, hc'⟩ := wcls_lt h
  unfold act at ha
  split at ha <;> first | (cases ha; done) | skip
  · rw [hk] at ha
    simp only at ha
    have hc : o.op.cls = 0 ∨ o.op.cls = 1 := by omega
    rcases hc with hc | hc
    · simp only [hc, Option.map_eq_some_iff] at ha; obtain ⟨v, _, rfl⟩ := ha; rfl
    · simp only [hc, Option.map_eq_some_iff] at ha; obtain ⟨v, _, rfl⟩ := ha; rfl
  · cases ha; rfl

theorem act_res {call : CallF} {a b : AOper} {S : St} {p : Option AV × List (Nat × List AV)} (hd : ∀ d, a.dst = some d → d ∉ looksA b) : act call b (res S a.dst p).s p.2 = act call b S.s p.2 := by
  unfold res
  cases ha : a.dst with
  | none => rfl
  | some d =>
    cases hp : p.1 with
    | none => rfl
    | some v => simp only; exact act_put (hd d ha)

theorem res_comm {S : St} {d e : Option Nat} (h : ∀ x y, d = some x → e = some y → x ≠ y) (p q : Option AV) (l : List (Nat × List AV)) : res (res S d (p, l)) e (q, l) = res (res S e (q, l)) d (p, l) := by
  unfold res
  cases d <;> cases e <;> cases p <;> cases q <;> first | rfl | skip
  rename_i x y u v
  simp only
  rw [put_comm _ (h x y rfl rfl)]

theorem putRows_away : ∀ (rows l : List (Nat × List AV)) (j : Nat), j ∉ keys rows → look (putRows l rows) j = look l j
  | [], l, j, _ => rfl
  | (d, cs) :: r, l, j, h => by
    simp only [keys, List.mem_cons, not_or] at h
    simp only [putRows]
    rw [putRows_away r _ j h.2, look_put, if_neg h.1]
theorem backL_keys : ∀ {ds : List Nat} {lent : List (List AV)} {a b : List (Nat × List AV)}, backL ds lent = some (a, b) → keys a = ds
  | [], [], a, b, h => by simp only [backL, Option.some.injEq, Prod.mk.injEq] at h; rw [← h.1]; rfl
  | [], _ :: _, a, b, h => by cases h
  | _ :: _, [], a, b, h => by cases h
  | d :: ds, cs :: css, a, b, h => by
    simp only [backL] at h
    split at h <;> first | (cases h; done) | skip
    rename_i a' b' h1
    have ih := backL_keys h1
    cases hr : isRef d <;> rw [hr] at h <;> cases h <;> simp only [keys, ih]
theorem awayB_of : ∀ {ds l : List Nat}, awayB ds l = true → ∀ x ∈ l, x ∉ ds
  | ds, [], _, x, hx => by cases hx
  | ds, y :: r, h, x, hx => by
    simp only [awayB, Bool.and_eq_true, Bool.not_eq_true'] at h
    rcases List.mem_cons.1 hx with rfl | hx
    · intro hm; rw [memb_iff.2 hm] at h; cases h.1
    · exact awayB_of h.2 x hx
/-- A row that is not lent stays. -/
theorem act_away {call : CallF} {o : AOper} {s : List (Nat × AV)} {l : List (Nat × List AV)} {p : Option AV × List (Nat × List AV)} {d : Nat} (hk : (isK o.op).isSome = true) (hd : memb (nolK o.op) d = true) (ha : act call o s l = some p) : look p.2 d = look l d := by
  unfold act at ha
  split at ha <;> first | (cases ha; done) | skip
  · cases hq : isK o.op with
    | none => rw [hq] at hk; cases hk
    | some q =>
      obtain ⟨f, xs⟩ := q
      rw [hq] at ha
      simp only [kAct] at ha
      split at ha <;> first | (cases ha; done) | skip
      split at ha <;> first | (cases ha; done) | skip
      rename_i vs ds ch hl
      simp only [Bool.cond_eq_ite] at ha
      split at ha <;> first | (cases ha; done) | skip
      rename_i hc
      split at ha <;> first | (cases ha; done) | skip
      split at ha <;> first | (cases ha; done) | skip
      split at ha <;> first | (cases ha; done) | skip
      rename_i l' haf
      have hp : p.2 = l' := by
        split at ha
        · split at ha <;> cases ha; rfl
        · cases ha; rfl
      rw [hp]
      unfold afterL at haf
      split at haf <;> first | (cases haf; done) | skip
      rename_i a b hbk
      simp only [Bool.cond_eq_ite] at haf
      split at haf <;> first | (cases haf; done) | skip
      cases haf
      refine putRows_away a l d ?_
      rw [backL_keys hbk]
      simp only [Bool.or_eq_true, not_or, Bool.not_eq_true, Bool.not_eq_false'] at hc
      exact awayB_of hc.2 d (memb_iff.1 hd)
  · cases ha; rfl
/-- Such a load looks at its row alone. -/
theorem act_ldR {call : CallF} {o : AOper} {s : List (Nat × AV)} {l l' : List (Nat × List AV)} {d : Nat} {m : Option Nat} {x : Operand} (ho : o.op = .ldR d m x) (h : look l' d = look l d) : act call o s l' = (act call o s l).map fun p => (p.1, l') := by
  unfold act
  cases wants s o.guard with
  | none => rfl
  | some b =>
    cases b
    · rfl
    · simp only [ho, isK, AOp.cls, readV]
      cases evalO s x <;> try rfl
      rename_i e off
      simp only
      cases hb : Nat.beq e d
      · rfl
      · have := Nat.eq_of_beq_eq_true hb
        subst this
        simp only [cond_true, h]
        cases look l e with
        | none => rfl
        | some cs =>
          simp only
          cases isRef e <;> simp only [cond_true, cond_false, Option.map_map] <;> congr 1

theorem noTouch_of {a b : AOp} (h : noTouch a b = true) : ∃ d m x, a = .ldR d m x ∧ (isK b).isSome = true ∧ memb (nolK b) d = true := by
  unfold noTouch at h
  split at h
  · rename_i d m x
    simp only [Bool.and_eq_true] at h
    exact ⟨d, m, x, rfl, h.1, h.2⟩
  · cases h

/-- TWO FREE OPERATIONS CHANGE PLACES. -/
theorem free_comm {call : CallF} {a b : AOper} (h : free a b = true) (S : St) : (step call a S).bind (step call b) = (step call b S).bind (step call a) := by
  simp only [free, Bool.and_eq_true, Bool.not_eq_true'] at h
  obtain ⟨⟨h1, h2⟩, h3⟩ := h
  have m1 := meets_of h1
  have m2 := meets_of h2
  have da : ∀ d, a.dst = some d → d ∉ looksA b := fun d e hm => m1 d (by simp [dstA, e]) (List.mem_append_left _ hm)
  have dab : ∀ x y, a.dst = some x → b.dst = some y → x ≠ y := fun x y e1 e2 hh => m1 x (by simp [dstA, e1]) (List.mem_append_right _ (by simp [dstA, e2, hh]))
  have db : ∀ d, b.dst = some d → d ∉ looksA a := fun d e hm => m2 d (by simp [dstA, e]) hm
  have ca : wcls a.op ≤ 2 := by
    revert h3; generalize wcls a.op = x; generalize wcls b.op = y; intro h3
    match x, y, h3 with
    | 0, _, _ => omega
    | 1, _, _ => omega
    | 2, _, _ => omega
    | n + 3, _, h => cases h
  have cb : wcls b.op ≤ 2 := by
    revert h3; generalize wcls a.op = x; generalize wcls b.op = y; intro h3
    match x, y, h3 with
    | _, 0, _ => omega
    | _, 1, _ => omega
    | _, 2, _ => omega
    | 0, n + 3, h => cases h
    | 1, n + 3, h => cases h
    | 2, n + 3, h => cases h
    | m + 3, n + 3, h => cases h
  have cc : (wcls a.op < 2 ∧ wcls b.op < 2) ∨ (wcls a.op = 2 ∧ wcls b.op = 0) ∨ (wcls a.op = 0 ∧ wcls b.op = 2) ∨ (wcls a.op = 1 ∧ wcls b.op = 2 ∧ noTouch a.op b.op = true) ∨ (wcls a.op = 2 ∧ wcls b.op = 1 ∧ noTouch b.op a.op = true) := by
    revert h3; generalize wcls a.op = x; generalize wcls b.op = y; intro h3
    match x, y, h3 with
    | 0, 0, _ => omega
    | 0, 1, _ => omega
    | 1, 0, _ => omega
    | 1, 1, _ => omega
    | 0, 2, _ => omega
    | 2, 0, _ => omega
    | 1, 2, h => exact .inr (.inr (.inr (.inl ⟨rfl, rfl, h⟩)))
    | 2, 1, h => exact .inr (.inr (.inr (.inr ⟨rfl, rfl, h⟩)))
    | 1, n + 3, h => cases h
    | 0, n + 3, h => cases h
    | 2, n + 2, h => cases h
    | m + 3, n, h => cases h
  have fa : ∀ S, step call a S = (act call a S.s S.l).map (res S a.dst) := step_act ca
  have fb : ∀ S, step call b S = (act call b S.s S.l).map (res S b.dst) := step_act cb
  have e1 : ∀ p, step call b (res S a.dst p) = (act call b S.s p.2).map (res (res S a.dst p) b.dst) := fun p => by
    rw [fb]; show Option.map _ (act call b (res S a.dst p).s p.2) = _; rw [act_res da]
  have e2 : ∀ p, step call a (res S b.dst p) = (act call a S.s p.2).map (res (res S b.dst p) a.dst) := fun p => by
    rw [fa]; show Option.map _ (act call a (res S b.dst p).s p.2) = _; rw [act_res db]
  rw [fa S, fb S]
  rcases cc with ⟨c1, c2⟩ | ⟨c1, c2⟩ | ⟨c1, c2⟩ | ⟨c1, c2, c3⟩ | ⟨c1, c2, c3⟩
  · cases ha : act call a S.s S.l with
    | none =>
      cases hb : act call b S.s S.l with
      | none => rfl
      | some q =>
        simp only [Option.map_none, Option.bind_none, Option.map_some, Option.bind_some, e2]
        rw [act_keeps c2 hb, ha]; rfl
    | some p =>
      simp only [Option.map_some, Option.bind_some, e1]
      rw [act_keeps c1 ha]
      cases hb : act call b S.s S.l with
      | none => rfl
      | some q =>
        simp only [Option.map_some, Option.bind_some, e2]
        rw [act_keeps c2 hb, ha]
        simp only [Option.map_some]
        have hp := act_keeps c1 ha
        have hq := act_keeps c2 hb
        obtain ⟨p1, p2⟩ := p
        obtain ⟨q1, q2⟩ := q
        simp only at hp hq
        subst hp; subst hq
        rw [res_comm dab]
  · cases ha : act call a S.s S.l with
    | none =>
      cases hb : act call b S.s S.l with
      | none => rfl
      | some q =>
        simp only [Option.map_none, Option.bind_none, Option.map_some, Option.bind_some, e2]
        rw [act_keeps (by omega) hb, ha]; rfl
    | some p =>
      simp only [Option.map_some, Option.bind_some, e1]
      rw [act_rows S.l p.2 c2]
      cases hb : act call b S.s S.l with
      | none => rfl
      | some q =>
        simp only [Option.map_some, Option.bind_some, e2]
        have hq := act_keeps (by omega) hb
        rw [hq, ha]
        simp only [Option.map_some]
        obtain ⟨p1, p2⟩ := p
        obtain ⟨q1, q2⟩ := q
        simp only at hq
        subst hq
        simp only [res]
        cases hda : a.dst <;> cases hdb : b.dst <;> cases p1 <;> cases q1 <;> first | rfl | skip
        rename_i x y u v
        simp only
        rw [put_comm _ (dab x y hda hdb)]
  · cases hb : act call b S.s S.l with
    | none =>
      cases ha : act call a S.s S.l with
      | none => rfl
      | some q =>
        simp only [Option.map_none, Option.bind_none, Option.map_some, Option.bind_some, e1]
        rw [act_keeps (by omega) ha, hb]; rfl
    | some p =>
      simp only [Option.map_some, Option.bind_some, e2]
      rw [act_rows S.l p.2 c1]
      cases ha : act call a S.s S.l with
      | none => rfl
      | some q =>
        simp only [Option.map_some, Option.bind_some, e1]
        have hq := act_keeps (by omega) ha
        rw [hq, hb]
        simp only [Option.map_some]
        obtain ⟨p1, p2⟩ := p
        obtain ⟨q1, q2⟩ := q
        simp only at hq
        subst hq
        simp only [res]
        cases hda : a.dst <;> cases hdb : b.dst <;> cases p1 <;> cases q1 <;> first | rfl | skip
        rename_i x y u v
        simp only
        rw [put_comm _ (dab x y hda hdb)]

  · obtain ⟨d, m, x, ho, hk, hd⟩ := noTouch_of c3
    cases hb : act call b S.s S.l with
    | none =>
      cases ha : act call a S.s S.l with
      | none => rfl
      | some q =>
        simp only [Option.map_none, Option.bind_none, Option.map_some, Option.bind_some, e1]
        rw [act_keeps (by omega) ha, hb]; rfl
    | some p =>
      simp only [Option.map_some, Option.bind_some, e2]
      rw [act_ldR ho (act_away hk hd hb)]
      cases ha : act call a S.s S.l with
      | none => rfl
      | some q =>
        simp only [Option.map_some, Option.bind_some, e1]
        have hq := act_keeps (by omega) ha
        rw [hq, hb]
        simp only [Option.map_some]
        obtain ⟨p1, p2⟩ := p
        obtain ⟨q1, q2⟩ := q
        simp only at hq
        subst hq
        simp only [res]
        cases hda : a.dst <;> cases hdb : b.dst <;> cases p1 <;> cases q1 <;> first | rfl | skip
        rename_i x y u v
        simp only
        rw [put_comm _ (dab x y hda hdb)]
  · obtain ⟨d, m, x, ho, hk, hd⟩ := noTouch_of c3
    cases ha : act call a S.s S.l with
    | none =>
      cases hb : act call b S.s S.l with
      | none => rfl
      | some q =>
        simp only [Option.map_none, Option.bind_none, Option.map_some, Option.bind_some, e2]
        rw [act_keeps (by omega) hb, ha]; rfl
    | some p =>
      simp only [Option.map_some, Option.bind_some, e1]
      rw [act_ldR ho (act_away hk hd ha)]
      cases hb : act call b S.s S.l with
      | none => rfl
      | some q =>
        simp only [Option.map_some, Option.bind_some, e2]
        have hq := act_keeps (by omega) hb
        rw [hq, ha]
        simp only [Option.map_some]
        obtain ⟨p1, p2⟩ := p
        obtain ⟨q1, q2⟩ := q
        simp only at hq
        subst hq
        simp only [res]
        cases hda : a.dst <;> cases hdb : b.dst <;> cases p1 <;> cases q1 <;> first | rfl | skip
        rename_i x y u v
        simp only
        rw [put_comm _ (dab x y hda hdb)]

/-! ### What grows a row changes places with what only names or cuts -/

theorem mapS_put (f : AV → AV) (l : List (Nat × AV)) (i : Nat) (v : AV) : mapS f (put l i v) = put (mapS f l) i (v.mapR f) := by
  induction l with
  | nil => rfl
  | cons p r ih =>
    obtain ⟨j, u⟩ := p
    simp only [put, mapS]
    cases Nat.blt j i
    · cases Nat.beq i j
      · simp only [cond_false, mapS, ih]
      · rfl
    · rfl
theorem get_mapK (d : Nat) (l : List (Nat × AV)) (j : Nat) : get (mapS (kill1 d) l) j = (get l j).mapR (kill1 d) := get_mapS _ rfl _ _
theorem idx_kill (d : Nat) (u : AV) : idx (u.mapR (kill1 d)) = idx u := by
  cases u with
  | rf e o => simp only [AV.mapR, kill1]; cases Nat.beq e d <;> rfl
  | rs e o n s => simp only [AV.mapR, kill1]; cases Nat.beq e d <;> rfl
  | _ => rfl
def ixD (n : Nat) : Option AV → Option Nat
  | none => some n
  | some v => idx v
theorem ixD_kill (d n : Nat) (o : Option AV) : ixD n (o.map fun u => u.mapR (kill1 d)) = ixD n o := by
  cases o with
  | none => rfl
  | some v => exact idx_kill d v
def cut2 (sz : Nat) (x : AV) (lo hi : Option AV) : Option AV :=
  match x with
  | .sl cs n => (match ixD 0 lo, ixD n hi with | some l, some h => bif Nat.ble l h && Nat.ble h n then some (.sl ((cs.drop (l * sz)).take ((h - l) * sz)) (h - l)) else none | _, _ => none)
  | .z => (match ixD 0 lo, ixD 0 hi with | some 0, some 0 => some .z | _, _ => none)
  | .rs d off n sz' => (match ixD 0 lo, ixD n hi with | some l, some h => bif Nat.beq sz sz' && Nat.ble l h && Nat.ble h n && Nat.blt l n then some (.rs d (off + l * sz) (h - l) sz) else none | _, _ => none)
  | _ => none
theorem slcV_cut (sz : Nat) (x : AV) (lo hi : Option AV) : slcV sz x lo hi none = cut2 sz x lo hi := by
  cases x <;> first | rfl | (cases lo <;> cases hi <;> rfl)
theorem cut_args (d sz : Nat) (y : AV) (lo hi : Option AV) : cut2 sz y (lo.map fun u => u.mapR (kill1 d)) (hi.map fun u => u.mapR (kill1 d)) = cut2 sz y lo hi := by
  unfold cut2
  simp only [ixD_kill]
theorem cut_kill {d sz : Nat} {x v : AV} {lo hi : Option AV} (h : cut2 sz (x.mapR (kill1 d)) (lo.map fun u => u.mapR (kill1 d)) (hi.map fun u => u.mapR (kill1 d)) = some v) : ∃ v', cut2 sz x lo hi = some v' ∧ v'.mapR (kill1 d) = v := by
  rw [cut_args] at h
  cases x with
  | sl cs n =>
    have h : cut2 sz (.sl cs n) lo hi = some v := h
    refine ⟨v, h, ?_⟩
    unfold cut2 at h
    simp only at h
    generalize ixD 0 lo = a at h
    generalize ixD n hi = b at h
    cases a with
    | none => cases h
    | some l =>
      cases b with
      | none => cases h
      | some m =>
        simp only at h
        cases hc : (Nat.ble l m && Nat.ble m n) <;> rw [hc] at h <;> cases h
        rfl
  | z =>
    have h : cut2 sz .z lo hi = some v := h
    refine ⟨v, h, ?_⟩
    unfold cut2 at h
    simp only at h
    split at h <;> cases h
    rfl
  | rs e o n s =>
    have hk : (AV.rs e o n s).mapR (kill1 d) = bif Nat.beq e d then .gone else .rs e o n s := rfl
    rw [hk] at h
    cases hb : Nat.beq e d
    · rw [hb] at h
      have h : cut2 sz (.rs e o n s) lo hi = some v := h
      refine ⟨v, h, ?_⟩
      unfold cut2 at h
      simp only at h
      generalize ixD 0 lo = a at h
      generalize ixD n hi = b at h
      cases a with
      | none => cases h
      | some l =>
        cases b with
        | none => cases h
        | some m =>
          simp only at h
          cases hc : (Nat.beq sz s && Nat.ble l m && Nat.ble m n && Nat.blt l n) <;> rw [hc] at h <;> cases h
          show (bif Nat.beq e d then AV.gone else _) = _
          rw [hb]; rfl
    · rw [hb] at h; cases h
  | rf e o =>
    have hk : (AV.rf e o).mapR (kill1 d) = bif Nat.beq e d then .gone else .rf e o := rfl
    rw [hk] at h
    cases hb : Nat.beq e d <;> rw [hb] at h <;> cases h
  | _ => cases h

theorem const_kill (d : Nat) (c : Value) : constAV c = (constAV c).mapR (kill1 d) := by
  unfold constAV
  split <;> rfl
theorem evalO_kill (d : Nat) (s : List (Nat × AV)) (t : Nat) (v : AV) (x : Operand) (h : ∀ u, x = .tmp u → u ≠ t) : evalO (put (mapS (kill1 d) s) t v) x = (evalO s x).mapR (kill1 d) := by
  rw [evalO_put h]
  cases x with
  | tmp u => exact get_mapK d s u
  | const c =>
    cases c with
    | agg cs => unfold evalO; simp only; cases cs.toList.all flatConst <;> rfl
    | _ => (unfold evalO; exact const_kill d _)
  | _ => rfl
/-- What is named or cut is the same behind it. -/
theorem cutB_kill {op : AOp} (hc : cutB op = true) {ρ ρ' : Operand → AV} {d : Nat} (h : ∀ x ∈ opnds op, ρ' x = (ρ x).mapR (kill1 d)) {v : AV} (hv : pureV ρ' op = some v) : ∃ v', pureV ρ op = some v' ∧ v'.mapR (kill1 d) = v := by
  unfold cutB at hc
  split at hc
  · rename_i x
    simp only [pureV, h x (by simp [opnds])] at hv ⊢
    cases hv
    exact ⟨_, rfl, rfl⟩
  · rename_i sz x lo hi
    have hx := h x (by simp [opnds])
    have o : ∀ {y : Option Operand}, (∀ z ∈ y.toList, ρ' z = (ρ z).mapR (kill1 d)) → y.map ρ' = (y.map ρ).map fun u => u.mapR (kill1 d) := fun {y} hy => by
      cases y with
      | none => rfl
      | some z => simp [hy z (by simp)]
    have hlo := o (y := lo) fun z hz => h z (by simp only [opnds, List.mem_cons, List.mem_append]; exact .inr (.inl hz))
    have hhi := o (y := hi) fun z hz => h z (by simp only [opnds, List.mem_cons, List.mem_append]; exact .inr (.inr (.inl hz)))
    simp only [pureV, hx, hlo, hhi, Option.map_none, slcV_cut] at hv ⊢
    exact cut_kill hv
  · cases hc
theorem cutB_cls {op : AOp} (hc : cutB op = true) : op.cls = 0 := by
  unfold cutB at hc
  split at hc <;> first | rfl | cases hc
/-- What growing a row does. -/
theorem app_form {call : CallF} {S S1 : St} {dst : Option Nat} {sz bytes : Nat} {x y : Operand} (h : stepK call S dst (.app sz bytes x y) = some S1) :
    ∃ t d v0 L1, dst = some t ∧ S1 = ⟨put (mapS (kill1 d) S.s) t v0, L1⟩ ∧ ∀ S' : St, S'.l = S.l → evalO S'.s x = evalO S.s x → evalO S'.s y = evalO S.s y → stepK call S' dst (.app sz bytes x y) = some ⟨put (mapS (kill1 d) S'.s) t v0, L1⟩ := by
  cases dst with
  | none => cases hx : evalO S.s x <;> simp [stepK, hx] at h
  | some t =>
    cases hx : evalO S.s x with
    | rs d off n sz' =>
      cases off with
      | succ k => simp [stepK, hx] at h
      | zero =>
        simp only [stepK, hx] at h
        cases hl : look S.l d with
        | none => simp [hl] at h
        | some cs =>
          cases hs : srcV S.l sz d (evalO S.s y) with
          | none => simp [hl, hs] at h
          | some p =>
            obtain ⟨vs, m⟩ := p
            simp only [hl, hs] at h
            refine ⟨t, d, .rs d 0 (n + m) sz, put (mapQ (kill1 d) (del S.l d)) d ((bif Nat.beq cs.length (n * sz) then cs else cs.take (n * sz)) ++ vs), rfl, ?_, ?_⟩
            rotate_left
            · intro S' e1 e2 e3
              simp only [stepK, e2, e3, e1, hx, hl, hs]
              revert h
              cases ((Nat.beq sz sz' && !isRef d) && (Nat.ble (n * sz) cs.length && decide ((n + m) * bytes ≤ 140737488355328)))
              · intro h; cases h
              · intro h; simp only [cond_true, St.rootAt, e1]
            · revert h
              cases ((Nat.beq sz sz' && !isRef d) && (Nat.ble (n * sz) cs.length && decide ((n + m) * bytes ≤ 140737488355328)))
              · intro h; cases h
              · intro h; simp only [cond_true, St.rootAt, Option.some.injEq] at h; exact h.symm
    | z =>
      simp only [stepK, hx] at h
      cases hs : srcV S.l sz t (evalO S.s y) with
      | none => simp [hs] at h
      | some p =>
        obtain ⟨vs, m⟩ := p
        simp only [hs] at h
        refine ⟨t, t, .rs t 0 m sz, put (mapQ (kill1 t) (del S.l t)) t vs, rfl, ?_, ?_⟩
        · revert h
          cases decide (m * bytes ≤ 140737488355328)
          · intro h; cases h
          · intro h; simp only [cond_true, St.root, Option.some.injEq] at h; exact h.symm
        · intro S' e1 e2 e3
          simp only [stepK, e2, e3, e1, hx, hs]
          revert h
          cases decide (m * bytes ≤ 140737488355328)
          · intro h; cases h
          · intro h; simp only [cond_true, St.root, e1]
    | _ => simp [stepK, hx] at h
/-- WHAT GROWS A ROW GOES BEHIND. -/
theorem app_behind {call : CallF} {a b : AOper} (h : freeA a b = true) {S S2 : St} (hs : (step call a S).bind (step call b) = some S2) : (step call b S).bind (step call a) = some S2 := by
  obtain ⟨da, opa, ga⟩ := a
  obtain ⟨db, opb, gb⟩ := b
  unfold freeA at h
  cases opa <;> simp only [appLooks] at h <;> first | (cases h; done) | skip
  rename_i sz bytes x y
  simp only [Bool.and_eq_true, Bool.not_eq_true', Option.isNone_iff_eq_none] at h
  obtain ⟨hc, rfl, rfl, h1, h2⟩ := h
  have m1 := meets_of h1
  have m2 := meets_of h2
  have cb := cutB_cls hc
  have sa : ∀ S, step call ⟨da, .app sz bytes x y, none⟩ S = stepK call S da (.app sz bytes x y) := fun S => rfl
  have sb : ∀ S, step call ⟨db, opb, none⟩ S = (pureV (evalO S.s) opb).map (S.putD db) := fun S => by
    simp only [step, wants, cb]
  rw [Option.bind_eq_some_iff] at hs
  obtain ⟨S1, hs1, hs2⟩ := hs
  rw [sa] at hs1
  obtain ⟨t, d, v0, L1, rfl, rfl, hmk⟩ := app_form hs1
  rw [sb, Option.map_eq_some_iff] at hs2
  obtain ⟨v, hv, rfl⟩ := hs2
  have hlk : ∀ z ∈ opnds opb, evalO (put (mapS (kill1 d) S.s) t v0) z = (evalO S.s z).mapR (kill1 d) := fun z hz => evalO_kill d S.s t v0 z fun u hu e => by
    subst hu; subst e
    exact m1 u (by simp [dstA]) (by simp only [looksA, List.mem_append]; exact .inl (.inl (tmpsOf_mem hz)))
  obtain ⟨v', hv', he⟩ := cutB_kill hc hlk hv
  rw [sb, hv']
  simp only [Option.map_some, Option.bind_some]
  rw [sa]
  cases db with
  | none => exact hmk S rfl rfl rfl
  | some u =>
    have hu : u ∉ tmpsOf [x, y] := m2 u (by simp [dstA])
    have hut : u ≠ t := fun e => m1 t (by simp [dstA]) (List.mem_append_right _ (by simp [dstA, e]))
    have nx : ∀ z, z ∈ [x, y] → evalO (put S.s u v') z = evalO S.s z := fun z hz => evalO_put fun w hw e => by
      subst hw; subst e; exact hu (tmpsOf_mem hz)
    have := hmk (S.putD (some u) v') rfl (nx x (by simp)) (nx y (by simp))
    rw [this]
    simp only [St.putD, mapS_put, he]
    rw [put_comm _ hut]
/-! ### A call that makes rows changes places with what looks at no row -/

theorem cells_kill {d sz : Nat} {x : AV} {cs : List AV} (h : cellsOf sz (x.mapR (kill1 d)) = some cs) : cellsOf sz x = some cs := by
  cases x with
  | rf e o => exfalso; revert h; simp only [AV.mapR, kill1]; cases Nat.beq e d <;> simp [cellsOf, AV.flat]
  | rs e o n s => exfalso; revert h; simp only [AV.mapR, kill1]; cases Nat.beq e d <;> simp [cellsOf, AV.flat]
  | tp l => exfalso; revert h; simp [AV.mapR, cellsOf, AV.flat]
  | aq l => exfalso; revert h; simp [AV.mapR, cellsOf, AV.flat]
  | fn g l => exfalso; revert h; simp [AV.mapR, cellsOf, AV.flat]
  | _ => exact h
theorem okE_kill {d : Nat} {v : AV} (h : okE v = true) : v.mapR (kill1 d) = v := by cases v <;> first | rfl | cases h
theorem fill_kill {d : Nat} {ρ ρ' : Operand → AV} : ∀ {ps : List (Nat × Nat × Operand)}, (∀ x ∈ ps.map (fun p => p.2.2), ρ' x = (ρ x).mapR (kill1 d)) → ∀ {cs r : List AV}, fillV ρ' ps cs = some r → fillV ρ ps cs = some r
  | [], _, cs, r, h => h
  | (off, sz, x) :: rest, hx, cs, r, h => by
    have h0 := hx x (by simp)
    simp only [fillV, h0] at h ⊢
    cases hc : cellsOf sz ((ρ x).mapR (kill1 d)) with
    | none => simp [hc] at h
    | some vs =>
      rw [cells_kill hc]
      simp only [hc] at h ⊢
      cases hb : Nat.ble (off + sz) cs.length
      · rw [hb] at h; cases h
      · rw [hb] at h
        simp only [cond_true] at h ⊢
        rcases vs with _ | ⟨v, _ | ⟨u, r2⟩⟩ <;> exact fill_kill (fun y hy => hx y (by simp only [List.map_cons, List.mem_cons]; exact .inr hy)) h
theorem kill_i {x : AV} {d : Nat} {k : IntKind} {n : Int} (h : x.mapR (kill1 d) = .i k n) : x = .i k n := by
  cases x with
  | rf e o => simp only [AV.mapR, kill1] at h; cases hb : Nat.beq e d <;> rw [hb] at h <;> cases h
  | rs e o n s => simp only [AV.mapR, kill1] at h; cases hb : Nat.beq e d <;> rw [hb] at h <;> cases h
  | i k' n => exact h
  | _ => cases h
theorem bin_kill {ek : EqKind} {op : BinOp} (ho : op = .add ∨ op = .sub) {x y : AV} {d : Nat} {v : AV} (h : binV ek op (x.mapR (kill1 d)) (y.mapR (kill1 d)) = some v) : ∃ v', binV ek op x y = some v' ∧ v'.mapR (kill1 d) = v := by
  generalize hx : x.mapR (kill1 d) = x' at h
  generalize hy : y.mapR (kill1 d) = y' at h
  unfold binV at h
  split at h
  · rename_i k a k' c
    obtain rfl := kill_i hx
    obtain rfl := kill_i hy
    rcases ho with rfl | rfl
    · dsimp only at h
      cases hk : decide (k = k') <;> rw [hk] at h <;> simp only [cond_false, cond_true, reduceCtorEq] at h
      refine ⟨v, by unfold binV; dsimp only; rw [hk]; exact h, ?_⟩
      cases h; rfl
    · dsimp only at h
      cases hk : decide (k = k') <;> rw [hk] at h <;> simp only [cond_false, cond_true, reduceCtorEq] at h
      refine ⟨v, by unfold binV; dsimp only; rw [hk]; exact h, ?_⟩
      cases h; rfl
  · rcases ho with rfl | rfl <;> cases h
theorem pureB_kill {op : AOp} (hc : pureB op = true) {ρ ρ' : Operand → AV} {d : Nat} (h : ∀ x ∈ opnds op, ρ' x = (ρ x).mapR (kill1 d)) {v : AV} (hv : pureV ρ' op = some v) : ∃ v', pureV ρ op = some v' ∧ v'.mapR (kill1 d) = v := by
  unfold pureB at hc
  split at hc
  · exact cutB_kill rfl h hv
  · exact cutB_kill rfl h hv
  · rename_i off x
    simp only [pureV, h x (by simp [opnds])] at hv ⊢
    cases hx : ρ x with
    | rf e o =>
      rw [hx] at hv
      simp only [AV.mapR, kill1] at hv
      cases hb : Nat.beq e d <;> rw [hb] at hv
      · simp only [cond_false, Option.some.injEq] at hv
        subst hv
        exact ⟨_, rfl, by simp only [AV.mapR, kill1, hb, cond_false]⟩
      · cases hv
    | rs e o n s =>
      rw [hx] at hv
      simp only [AV.mapR, kill1] at hv
      cases hb : Nat.beq e d <;> rw [hb] at hv <;> cases hv
    | el cs o => rw [hx] at hv; cases hv; exact ⟨_, rfl, rfl⟩
    | _ => rw [hx] at hv; cases hv
  · rename_i k x
    simp only [pureV, h x (by simp [opnds])] at hv ⊢
    cases hx : ρ x with
    | rf e o => rw [hx] at hv; simp only [AV.mapR, kill1] at hv; cases hb : Nat.beq e d <;> rw [hb] at hv <;> cases hv
    | rs e o n s => rw [hx] at hv; simp only [AV.mapR, kill1] at hv; cases hb : Nat.beq e d <;> rw [hb] at hv <;> cases hv
    | i k' n => rw [hx] at hv; cases hv; exact ⟨_, rfl, rfl⟩
    | _ => rw [hx] at hv; cases hv
  · rename_i m x
    simp only [pureV, h x (by simp [opnds])] at hv ⊢
    cases hx : ρ x with
    | rf e o => rw [hx] at hv; simp only [AV.mapR, kill1] at hv; cases hb : Nat.beq e d <;> rw [hb] at hv <;> cases hv
    | rs e o n s => rw [hx] at hv; simp only [AV.mapR, kill1] at hv; cases hb : Nat.beq e d <;> rw [hb] at hv <;> cases hv
    | el cs o =>
      rw [hx] at hv
      have hv : keepE (partV cs o m) = some v := hv
      refine ⟨v, hv, ?_⟩
      unfold keepE at hv
      split at hv
      · rename_i u hu
        cases hk : okE u <;> rw [hk] at hv <;> cases hv
        exact okE_kill hk
      · cases hv
    | _ => rw [hx] at hv; cases hv
  · rename_i n zero ps
    simp only [pureV] at hv ⊢
    cases hf : fillV ρ' ps (zrep zero n) with
    | none => simp [hf] at hv
    | some cs =>
      simp only [hf, Option.some.injEq] at hv
      subst hv
      have := fill_kill (ρ := ρ) (d := d) (fun x hx => h x (by simpa [opnds] using hx)) hf
      rw [this]
      exact ⟨_, rfl, rfl⟩
  · rename_i ek x y
    simp only [pureV, h x (by simp [opnds]), h y (by simp [opnds])] at hv ⊢
    exact bin_kill (.inl rfl) hv
  · rename_i ek x y
    simp only [pureV, h x (by simp [opnds]), h y (by simp [opnds])] at hv ⊢
    exact bin_kill (.inr rfl) hv
  · cases hc
def killsS : List Nat → List (Nat × AV) → List (Nat × AV)
  | [], s => s
  | d :: r, s => killsS r (mapS (kill1 d) s)
def killsL : List Nat → List (Nat × List AV) → List (Nat × List AV)
  | [], l => l
  | d :: r, l => killsL r (mapQ (kill1 d) (del l d))
def killV : List Nat → AV → AV
  | [], v => v
  | d :: r, v => killV r (v.mapR (kill1 d))
theorem kills_form : ∀ (ds : List Nat) (S : St), S.kills ds = ⟨killsS ds S.s, killsL ds S.l⟩
  | [], S => rfl
  | d :: r, S => by rw [St.kills, kills_form r]; rfl
theorem killsS_app : ∀ (a b : List Nat) (s : List (Nat × AV)), killsS (a ++ b) s = killsS b (killsS a s)
  | [], b, s => rfl
  | d :: r, b, s => killsS_app r b (mapS (kill1 d) s)
theorem killsS_put (u : Nat) : ∀ (D : List Nat) (s : List (Nat × AV)) (v : AV), killsS D (put s u v) = put (killsS D s) u (killV D v)
  | [], s, v => rfl
  | d :: r, s, v => by rw [killsS, mapS_put, killsS_put u r]; rfl
theorem evalO_mapK (d : Nat) (s : List (Nat × AV)) (x : Operand) : evalO (mapS (kill1 d) s) x = (evalO s x).mapR (kill1 d) := by
  cases x with
  | tmp u => exact get_mapK d s u
  | const c =>
    cases c with
    | agg cs => unfold evalO; simp only; cases cs.toList.all flatConst <;> rfl
    | _ => (unfold evalO; exact const_kill d _)
  | _ => rfl
theorem pure_kills {op : AOp} (hc : pureB op = true) : ∀ (D : List Nat) (s : List (Nat × AV)) (v : AV), pureV (evalO (killsS D s)) op = some v → ∃ v', pureV (evalO s) op = some v' ∧ killV D v' = v
  | [], s, v, h => ⟨v, h, rfl⟩
  | d :: r, s, v, h => by
    obtain ⟨v1, h1, h2⟩ := pure_kills hc r (mapS (kill1 d) s) v h
    obtain ⟨v', h3, h4⟩ := pureB_kill hc (ρ := evalO s) (d := d) (fun x _ => evalO_mapK d s x) h1
    exact ⟨v', h3, by rw [killV, h4]; exact h2⟩
theorem afterK_form {S S1 : St} {ds ch : List Nat} {lent : List (List AV)} (h : afterK S ds ch lent = some S1) : ∃ D L1, S1 = ⟨killsS D S.s, L1⟩ ∧ ∀ S' : St, S'.l = S.l → afterK S' ds ch lent = some ⟨killsS D S'.s, L1⟩ := by
  unfold afterK at h
  cases hb : backL ds lent with
  | none => rw [hb] at h; cases h
  | some p =>
    obtain ⟨a, b⟩ := p
    rw [hb] at h
    simp only at h
    cases hc : (nodupB (keys a ++ keys b) && allCh (keys b)) with
    | false => rw [hc] at h; cases h
    | true =>
      rw [hc] at h
      simp only [cond_true, Option.some.injEq, kills_form] at h
      refine ⟨ch ++ keys b, _, h.symm, fun S' e => ?_⟩
      unfold afterK
      rw [hb]
      simp only [hc, cond_true, kills_form, e]
theorem takeRows_form (S : St) (rows : List (Nat × List AV)) : S.takeRows rows = ⟨killsS (keys rows) S.s, putRows (killsL (keys rows) S.l) rows⟩ := by
  simp only [St.takeRows, kills_form]
/-- What is received hangs on no slot. -/
theorem recv_any (d : Nat) (own : List (Nat × Nat)) (r : AV) : ∃ o : Option (List (Nat × List AV) × AV), ∀ S : St, recv S d own r = o.map fun p => (S.takeRows p.1, p.2) := by
  have plainR : ∀ (r : AV), ∃ o : Option (List (Nat × List AV) × AV), ∀ S : St, (match fromRet r with | some v => some (S, v) | none => none) = o.map fun p => (S.takeRows p.1, p.2) := fun r =>
    ⟨(fromRet r).map fun v => ([], v), fun S => by cases fromRet r <;> rfl⟩
  have takeR : ∀ (r : AV), ∃ o : Option (List (Nat × List AV) × AV), ∀ S : St, (match take1 d r with | some (v, rows) => bif nodupB (keys rows) then some (S.takeRows rows, v) else none | none => none) = o.map fun p => (S.takeRows p.1, p.2) := fun r =>
    ⟨match take1 d r with | some (v, rows) => bif nodupB (keys rows) then some (rows, v) else none | none => none, fun S => by
      cases take1 d r with
      | none => rfl
      | some p =>
        obtain ⟨v, rows⟩ := p
        simp only
        cases nodupB (keys rows) <;> rfl⟩
  cases own with
  | nil =>
    obtain ⟨o, ho⟩ := plainR r
    exact ⟨o, fun S => by rw [recv_nil]; exact ho S⟩
  | cons p rest =>
    obtain ⟨j, k⟩ := p
    by_cases h7 : j = 7 ∧ k = 7
    · obtain ⟨rfl, rfl⟩ := h7
      obtain ⟨o, ho⟩ := plainR r
      exact ⟨o, fun S => by rw [recv.eq_1]; exact ho S⟩
    · have hn : j = 7 → k = 7 → False := fun a b => h7 ⟨a, b⟩
      by_cases ht : ∃ l, r = .tp l
      · obtain ⟨l, rfl⟩ := ht
        refine ⟨match l[j]? with
          | some x => bif Nat.blt (d + 1000 * (j + 1)) 1000000 then
              (match take1 (d + 1000 * (j + 1)) x with
               | some (v, rows) => bif plain v && nodupB (keys rows) then (match fromRetL (l.set j .un) with | some vs => some (rows, .tp (vs.set j v)) | none => none) else none
               | none => none) else none
          | none => (fromRet (.tp l)).map fun v => ([], v), fun S => ?_⟩
        rw [recv.eq_2 _ _ _ _ _ _ hn]
        cases l[j]? with
        | none => simp only; cases fromRet (.tp l) <;> rfl
        | some x =>
          simp only
          cases Nat.blt (d + 1000 * (j + 1)) 1000000
          · rfl
          · simp only [cond_true]
            cases take1 (d + 1000 * (j + 1)) x with
            | none => rfl
            | some p =>
              obtain ⟨v, rows⟩ := p
              simp only
              cases plain v && nodupB (keys rows)
              · rfl
              · simp only [cond_true]
                cases fromRetL (l.set j .un) <;> rfl
      · obtain ⟨o, ho⟩ := takeR r
        refine ⟨o, fun S => ?_⟩
        rw [recv.eq_3 _ _ _ _ _ (fun h => by cases h; exact h7 ⟨rfl, rfl⟩) (fun j k l h _ => ht ⟨l, h⟩)]
        exact ho S
theorem recv_form {S S2 : St} {d : Nat} {own : List (Nat × Nat)} {r v : AV} (h : recv S d own r = some (S2, v)) : ∃ D L2, S2 = ⟨killsS D S.s, L2⟩ ∧ ∀ S' : St, S'.l = S.l → recv S' d own r = some (⟨killsS D S'.s, L2⟩, v) := by
  obtain ⟨o, ho⟩ := recv_any d own r
  rw [ho S] at h
  cases o with
  | none => cases h
  | some p =>
    simp only [Option.map_some, Option.some.injEq, Prod.mk.injEq] at h
    obtain ⟨rfl, rfl⟩ := h
    refine ⟨keys p.1, _, takeRows_form S p.1, fun S' e => ?_⟩
    rw [ho S']
    simp only [Option.map_some, takeRows_form, e]
def putO (s : List (Nat × AV)) : Option Nat → Option AV → List (Nat × AV)
  | some d, some v => put s d v
  | _, _ => s
/-- What a call does. -/
theorem call_form {call : CallF} {S S1 : St} {dst : Option Nat} {f : Operand} {xs : List Operand} {own : List (Nat × Nat)} (h : stepK call S dst (.callK f xs own) = some S1) :
    ∃ D L1 ov, S1 = ⟨putO (killsS D S.s) dst ov, L1⟩ ∧ ∀ S' : St, S'.l = S.l → evalO S'.s f = evalO S.s f → evalL (evalO S'.s) xs = evalL (evalO S.s) xs → stepK call S' dst (.callK f xs own) = some ⟨putO (killsS D S'.s) dst ov, L1⟩ := by
  simp only [stepK] at h
  cases hf : evalO S.s f with
  | fn g caps =>
    rw [hf] at h
    simp only at h
    generalize has : evalL (evalO S.s) xs ++ caps = as at h
    cases hl : lends (mvOf own) S.l as with
    | none => rw [hl] at h; cases h
    | some p =>
      obtain ⟨vs, ds, ch⟩ := p
      rw [hl] at h
      simp only at h
      cases hc : (((seesAny (mvOf own) (ds ++ ch) as || !nodupB (ds ++ ch)) || !okEnter ds vs) || !awayB ds (nolOf own)) with
      | true => rw [hc] at h; cases h
      | false =>
        rw [hc] at h
        simp only [cond_false] at h
        cases hg : call g vs with
        | none => rw [hg] at h; cases h
        | some R =>
          obtain ⟨r, lent⟩ := R
          rw [hg] at h
          simp only at h
          cases ha : (anyRs (mvOf own) as && (hasSl r || hasSlLL lent)) with
          | true => rw [ha] at h; cases h
          | false =>
            rw [ha] at h
            simp only [cond_false] at h
            cases hk : afterK S ds ch lent with
            | none => rw [hk] at h; cases h
            | some S2 =>
              rw [hk] at h
              simp only at h
              obtain ⟨D, L1, rfl, hk'⟩ := afterK_form hk
              cases hs : stays (unmv own) ch ds lent with
              | false => rw [hs] at h; cases h
              | true =>
                rw [hs] at h
                simp only [cond_true] at h
                cases dst with
                | none =>
                  simp only [Option.some.injEq] at h
                  refine ⟨D, L1, none, h.symm, fun S' e1 e2 e3 => ?_⟩
                  simp only [stepK, e2, hf, e3, has, e1, hl, hc, cond_false, hg, ha, hk' S' e1, hs, cond_true]
                  rfl
                | some d =>
                  simp only at h
                  cases hr : recv ⟨killsS D S.s, L1⟩ d (unmv own) r with
                  | none => rw [hr] at h; cases h
                  | some q =>
                    obtain ⟨S3, v⟩ := q
                    rw [hr] at h
                    simp only [Option.some.injEq] at h
                    obtain ⟨D2, L2, rfl, hr'⟩ := recv_form hr
                    refine ⟨D ++ D2, L2, some v, ?_, fun S' e1 e2 e3 => ?_⟩
                    · rw [killsS_app]; exact h.symm
                    · simp only [stepK, e2, hf, e3, has, e1, hl, hc, cond_false, hg, ha, hk' S' e1, hs, cond_true]
                      rw [hr' ⟨killsS D S'.s, L1⟩ rfl, killsS_app]
                      rfl
  | _ => rw [hf] at h; cases h
theorem evalO_putO {s : List (Nat × AV)} {dst : Option Nat} {ov : Option AV} {x : Operand} (h : ∀ t w, dst = some t → x = .tmp w → w ≠ t) : evalO (putO s dst ov) x = evalO s x := by
  cases dst with
  | none => rfl
  | some t =>
    cases ov with
    | none => rfl
    | some u => exact evalO_put fun w hw => h t w rfl hw
theorem putO_put {s : List (Nat × AV)} {dst : Option Nat} {ov : Option AV} {u : Nat} {v : AV} (h : ∀ t, dst = some t → u ≠ t) : putO (put s u v) dst ov = put (putO s dst ov) u v := by
  cases dst with
  | none => rfl
  | some t =>
    cases ov with
    | none => rfl
    | some q => exact put_comm _ (h t rfl) v q
/-- A CALL THAT MAKES ROWS GOES BEHIND. -/
theorem call_behind {call : CallF} {a b : AOper} (h : freeB a b = true) {S S2 : St} (hs : (step call a S).bind (step call b) = some S2) : (step call b S).bind (step call a) = some S2 := by
  obtain ⟨da, opa, ga⟩ := a
  obtain ⟨db, opb, gb⟩ := b
  unfold freeB at h
  cases opa <;> simp only [callLooks] at h <;> first | (cases h; done) | skip
  rename_i f xs own
  cases hm8 : m8 own
  rotate_left
  · rw [hm8] at h; cases h
  rw [hm8] at h
  simp only [cond_false] at h
  simp only [Bool.and_eq_true, Bool.not_eq_true', Option.isNone_iff_eq_none] at h
  obtain ⟨hc, rfl, rfl, h1, h2⟩ := h
  have m1 := meets_of h1
  have m2 := meets_of h2
  have cb : opb.cls = 0 := by
    unfold pureB at hc
    split at hc <;> first | rfl | cases hc
  have sa : ∀ S, step call ⟨da, .callK f xs own, none⟩ S = stepK call S da (.callK f xs own) := fun S => by
    show stepC call S da (.callK f xs own) = _
    simp only [stepC, mark8, hm8, cond_false]
  have sb : ∀ S, step call ⟨db, opb, none⟩ S = (pureV (evalO S.s) opb).map (S.putD db) := fun S => by
    simp only [step, wants, cb]
  rw [Option.bind_eq_some_iff] at hs
  obtain ⟨S1, hs1, hs2⟩ := hs
  rw [sa] at hs1
  obtain ⟨D, L1, ov, rfl, hmk⟩ := call_form hs1
  rw [sb, Option.map_eq_some_iff] at hs2
  obtain ⟨v, hv, rfl⟩ := hs2
  have hlk : ∀ z ∈ opnds opb, evalO (putO (killsS D S.s) da ov) z = evalO (killsS D S.s) z := fun z hz => evalO_putO fun t w e1 e2 e3 => by
    subst e1; subst e2; subst e3
    exact m1 w (by simp [dstA]) (by simp only [looksA, List.mem_append]; exact .inl (.inl (tmpsOf_mem hz)))
  have hv2 : pureV (evalO (killsS D S.s)) opb = some v := by rw [← pureV_congr hlk]; exact hv
  obtain ⟨v', hv', he⟩ := pure_kills hc D S.s v hv2
  rw [sb, hv']
  simp only [Option.map_some, Option.bind_some]
  rw [sa]
  cases db with
  | none => exact hmk S rfl rfl rfl
  | some u =>
    have hu : u ∉ tmpsOf (f :: xs) := m2 u (by simp [dstA])
    have nx : ∀ z, z ∈ f :: xs → evalO (put S.s u v') z = evalO S.s z := fun z hz => evalO_put fun w hw e => by
      subst hw; subst e; exact hu (tmpsOf_mem hz)
    have := hmk (S.putD (some u) v') rfl (nx f (by simp)) (evalL_congr fun z hz => nx z (by simp [hz]))
    rw [this]
    simp only [St.putD, killsS_put, he]
    rw [putO_put fun t e1 e2 => m1 t (by simp [dstA, e1]) (List.mem_append_right _ (by simp [dstA, e2]))]
end Zab

namespace Zab
open Go
set_option linter.unusedSimpArgs false
set_option linter.unusedVariables false

def stepsIx (call : CallF) (al : List AOper) : List Nat → St → Option St
  | [], S => some S
  | i :: r, S => match al[i]? with | some o => (step call o S).bind (stepsIx call al r) | none => none

theorem steps_ix {call : CallF} : ∀ (post pre : List AOper) (S : St), stepsIx call (pre ++ post) (List.range' pre.length post.length) S = steps call post S
  | [], pre, S => rfl
  | o :: r, pre, S => by
    simp only [List.length_cons, List.range'_succ, stepsIx, steps]
    rw [List.getElem?_append_right (Nat.le_refl _), Nat.sub_self, List.getElem?_cons_zero]
    simp only
    cases step call o S with
    | none => rfl
    | some S1 =>
      simp only [Option.bind_some]
      have := steps_ix (call := call) r (pre ++ [o]) S1
      simp only [List.append_assoc, List.singleton_append, List.length_append, List.length_singleton] at this
      exact this

theorem stepsIx_append {call : CallF} {al : List AOper} : ∀ (a b : List Nat) (S : St), stepsIx call al (a ++ b) S = (stepsIx call al a S).bind (stepsIx call al b)
  | [], b, S => rfl
  | i :: r, b, S => by
    simp only [List.cons_append, stepsIx]
    cases al[i]? with
    | none => rfl
    | some o =>
      simp only
      cases step call o S with
      | none => rfl
      | some S1 => simp only [Option.bind_some]; exact stepsIx_append r b S1

/-- One may go first, if it is free of all before it. -/
theorem stepsIx_first {call : CallF} {al : List AOper} {i : Nat} {o : AOper} (hi : al[i]? = some o) {X : St} : ∀ (pre post : List Nat) (S : St), (∀ p ∈ pre, ∃ b, al[p]? = some b ∧ (free b o || (freeA b o || freeB b o)) = true) → stepsIx call al (pre ++ i :: post) S = some X → stepsIx call al (i :: (pre ++ post)) S = some X
  | [], post, S, _, hx => hx
  | p :: r, post, S, h, hx => by
    obtain ⟨b, hb, hf⟩ := h p (by simp)
    simp only [List.cons_append, stepsIx, hb, hi] at hx ⊢
    rw [Option.bind_eq_some_iff] at hx
    obtain ⟨S1, h1, h2⟩ := hx
    have ih := stepsIx_first (call := call) hi r post S1 (fun q hq => h q (by simp [hq])) h2
    simp only [stepsIx, hi] at ih
    rw [Option.bind_eq_some_iff] at ih
    obtain ⟨S2, h3, h4⟩ := ih
    have h5 : (step call b S).bind (step call o) = some S2 := by rw [h1]; exact h3
    have h6 : (step call o S).bind (step call b) = some S2 := by
      rw [Bool.or_eq_true, Bool.or_eq_true] at hf
      rcases hf with hf | hf | hf
      · rw [← free_comm hf S]; exact h5
      · exact app_behind hf h5
      · exact call_behind hf h5
    rw [Option.bind_eq_some_iff] at h6
    obtain ⟨S3, h7, h8⟩ := h6
    rw [h7]
    simp only [Option.bind_some, h8]
    exact h4

/-! ### What waits for what -/

theorem foldl_bits (acc : List Nat) (j : Nat) : ∀ (l : List Edge) (s : Nat), (l.foldl (fun s e => if Region.binds .any e then s ||| 2 ^ e.on ||| acc.getD e.on 0 else s) s).testBit j = true → s.testBit j = true ∨ ∃ e ∈ l, Region.binds .any e = true ∧ (e.on = j ∨ (acc.getD e.on 0).testBit j = true)
  | [], s, h => .inl h
  | e :: r, s, h => by
    simp only [List.foldl_cons] at h
    rcases foldl_bits acc j r _ h with h1 | ⟨e', he, hb, h2⟩
    · cases hb : Region.binds .any e
      · simp only [hb, Bool.false_eq_true, if_false] at h1; exact .inl h1
      · simp only [hb, if_true, Nat.testBit_or, Bool.or_eq_true] at h1
        rcases h1 with (h1 | h1) | h1
        · exact .inl h1
        · rw [Nat.testBit_two_pow] at h1
          exact .inr ⟨e, by simp, hb, .inl (by simpa using h1)⟩
        · exact .inr ⟨e, by simp, hb, .inr h1⟩
    · exact .inr ⟨e', by simp [he], hb, h2⟩

theorem befs_len : ∀ (l : List Oper) (acc : List Nat), (befs l acc).length = acc.length + l.length
  | [], acc => by simp [befs]
  | o :: r, acc => by rw [befs, befs_len r]; simp; omega

theorem befs_pre : ∀ (l : List Oper) (acc : List Nat) (j : Nat), j < acc.length → (befs l acc).getD j 0 = acc.getD j 0
  | [], acc, j, _ => rfl
  | o :: r, acc, j, h => by
    rw [befs, befs_pre r _ j (by simp; omega)]
    simp [List.getElem?_append_left h]

theorem befs_at : ∀ (l : List Oper) (acc : List Nat) (j : Nat) (h : j < l.length), ∃ acc', (befs l acc).getD (acc.length + j) 0 = maskOf acc' l[j] ∧ (∀ k, k < acc.length + j → acc'.getD k 0 = (befs l acc).getD k 0) ∧ acc'.length = acc.length + j
  | o :: r, acc, 0, _ => ⟨acc, by
      rw [befs, Nat.add_zero, befs_pre r _ _ (by simp)]
      simp, fun k hk => by rw [befs, befs_pre r _ _ (by simp; omega)]; simp [List.getElem?_append_left (show k < acc.length by omega)], by simp⟩
  | o :: r, acc, j + 1, h => by
    obtain ⟨acc', h1, h2, h3⟩ := befs_at r (acc ++ [maskOf acc o]) j (by simpa using h)
    simp only [List.length_append, List.length_singleton] at h1 h2 h3
    refine ⟨acc', ?_, fun k hk => ?_, by omega⟩
    · rw [befs, show acc.length + (j + 1) = acc.length + 1 + j by omega, h1]; rfl
    · rw [befs, h2 k (by omega)]

theorem edges_of : ∀ (l : List Oper) (k : Nat), edgesOk k l = true → ∀ j (h : j < l.length) e, e ∈ l[j].after.toList → Region.binds .any e = true → e.on < k + j
  | o :: r, k, h, 0, _, e, he, hb => by
    simp only [edgesOk, Bool.and_eq_true, List.all_eq_true, Bool.or_eq_true, Bool.not_eq_true', Nat.blt_eq] at h
    rcases h.1 e he with h1 | h1
    · rw [hb] at h1; cases h1
    · simpa using h1
  | o :: r, k, h, j + 1, hj, e, he, hb => by
    simp only [edgesOk, Bool.and_eq_true] at h
    have := edges_of r (k + 1) h.2 j (by simpa using hj) e (by simpa using he) hb
    omega

/-- What is listed holds what it waits for. -/
def Closed (ops : Array Oper) (listed : Array Bool) : Prop := ∀ j, listed.getD j false = true → ∀ o, ops[j]? = some o → ∀ e ∈ o.after.toList, Region.binds .any e = true → listed.getD e.on false = true

theorem bits_listed {ops : Array Oper} {listed : Array Bool} (he : edgesOk 0 ops.toList = true) (hc : Closed ops listed) : ∀ (j : Nat) (o : Oper), ops[j]? = some o → (∀ e ∈ o.after.toList, Region.binds .any e = true → listed.getD e.on false = true) →
    ∀ i, ((befs ops.toList []).getD j 0).testBit i = true → listed.getD i false = true := by
  intro j
  induction j using Nat.strongRecOn with
  | _ j ih =>
    intro o ho hl i hb
    have hj : j < ops.toList.length := by
      have := (Array.getElem?_eq_some_iff.1 ho).1; simpa using this
    obtain ⟨acc', h1, h2, h3⟩ := befs_at ops.toList [] j hj
    simp only [List.length_nil, Nat.zero_add] at h1 h2 h3
    have hoj : ops.toList[j] = o := by
      obtain ⟨_, e⟩ := Array.getElem?_eq_some_iff.1 ho; simpa using e
    rw [h1, hoj] at hb
    rcases foldl_bits acc' i _ 0 hb with hb | ⟨e, he', hbind, hb⟩
    · simp at hb
    · have hlt := edges_of ops.toList 0 he j hj e (by rw [hoj]; exact he') hbind
      rw [Nat.zero_add] at hlt
      have hle := hl e he' hbind
      rcases hb with rfl | hb
      · exact hle
      · rw [h2 e.on hlt] at hb
        have hlt' : e.on < ops.size := by simp at hj; omega
        exact ih e.on hlt ops[e.on] (by simp [hlt']) (fun e2 he2 hb2 => hc e.on hle _ (by simp [hlt']) e2 he2 hb2) i hb

section
variable {C : Ctx} {A K : Nat → Nat} {S : St} {a : Act} {w : World}

theorem cOpers_get {I : Info} {ops : Array Oper} : ∀ {l : List Oper} {al : List AOper}, cOpers I ops l = some al → l.length = al.length ∧ ∀ j (h1 : j < l.length) (h2 : j < al.length), cOper I ops l[j] = some al[j]
  | [], al, h => by simp only [cOpers, Option.some.injEq] at h; subst h; exact ⟨rfl, fun j h => by simp at h⟩
  | o :: r, al, h => by
    simp only [cOpers] at h
    cases ho : cOper I ops o with
    | none => simp [ho] at h
    | some x =>
      cases hr : cOpers I ops r with
      | none => simp [ho, hr] at h
      | some l =>
        simp only [ho, hr, Option.some.injEq] at h
        subst h
        obtain ⟨i1, i2⟩ := cOpers_get hr
        refine ⟨by simp [i1], fun j h1 h2 => ?_⟩
        cases j with
        | zero => exact ho
        | succ j => exact i2 j (by simpa using h1) (by simpa using h2)

structure Same (I : Info) (C : Ctx) : Prop where
  P : I.P = C.E.P
  T : I.T = C.E.T
  np : I.np = C.np
  nt : I.nt = C.nt
  keep : I.keep = C.ks
  fix : I.inner = false → C.fix = false
  small : C.nt ≤ 1000000

/-- A region in the text's order. -/
theorem region_seq {ro : Option Nat} {fm : Nat} {I : Info} (hI : Same I C) (hE : EnvOk C.E I.sents) {call : CallF} (hC : CallSound C.E call) {ops : Array Oper} {al : List AOper} (hal : cOpers I ops ops.toList = some al) {Q : Exit → Act → World → Prop} {Sf : St}
    (hQ : ∀ A' K' a' w', Rel C A' K' Sf a' w' → Q .normal a' w') : ∀ (n k : Nat), k + n = ops.size → ∀ {A K : Nat → Nat} {S : St} {a : Act} {w : World}, Rel C A K S a w → stepsIx call al (List.range' k n) S = some Sf → wpOpsIn (Fr ro) fm C.E.P ops Q (List.range' k n) a w := by
  obtain ⟨g1, g2⟩ := cOpers_get hal
  intro n
  induction n with
  | zero => intro k _ A K S a w R h; simp only [List.range', stepsIx, Option.some.injEq] at h; subst h; exact hQ _ _ _ _ R
  | succ n ih =>
    intro k hk A K S a w R h
    simp only [List.range'_succ, stepsIx] at h ⊢
    rw [wpOpsIn_cons]
    have hkl : k < ops.toList.length := by simp; omega
    have hka : k < al.length := by omega
    rw [List.getElem?_eq_getElem hka] at h
    simp only [Option.bind_eq_some_iff] at h
    obtain ⟨S1, h1, h2⟩ := h
    have hop : ops[k]? = some ops.toList[k] := by simp at hkl ⊢
    exact (step_sound ⟨hI.P, hI.T, hI.np, hI.nt, hI.keep⟩ hI.small hE hC R hop (g2 k hkl hka) h1 fun A' K' a' w' R' => ih (k + 1) (by omega) R' h2).fr ro

theorem getD_both {listed : Array Bool} {i : Nat} (h : listed.getD i true = false) : listed.getD i false = false := by
  simp only [Array.getD_eq_getD_getElem?] at h ⊢
  cases hq : listed[i]? with
  | none => rfl
  | some b => rw [hq] at h; simpa using h

theorem ready_iff {ops : Array Oper} {listed : Array Bool} {i : Nat} : i ∈ Region.ready .any ops listed ↔ i < ops.size ∧ listed.getD i true = false ∧ ∃ o, ops[i]? = some o ∧ ∀ e ∈ o.after.toList, Region.binds .any e = true → listed.getD e.on false = true := by
  unfold Region.ready
  simp only [List.mem_filter, List.mem_range, Bool.and_eq_true, Bool.not_eq_true']
  refine and_congr_right fun hi => and_congr_right fun _ => ?_
  rw [Array.getElem?_eq_getElem hi]
  simp only [Option.map_some, Option.getD_some, Option.some.injEq, exists_eq_left', Array.all_eq_true_iff_forall_mem, Bool.or_eq_true, Bool.not_eq_true', Array.mem_toList_iff]
  constructor
  · intro h e he hb
    rcases h e he with h1 | h1
    · rw [hb] at h1; cases h1
    · exact h1
  · intro h e he
    cases hb : Region.binds .any e
    · exact .inl rfl
    · exact .inr (h e he hb)

/-- A region in any order. -/
theorem region_any {ro : Option Nat} {fm : Nat} {I : Info} (hI : Same I C) (hE : EnvOk C.E I.sents) {call : CallF} (hC : CallSound C.E call) {ops : Array Oper} {al : List AOper} (hal : cOpers I ops ops.toList = some al) (hd : drawOk ops al = true) {Q : Exit → Act → World → Prop} {Sf : St}
    (hQ : ∀ A' K' a' w', Rel C A' K' Sf a' w' → Q .normal a' w') : ∀ (fuel : Nat) (listed : Array Bool) (rem : List Nat), rem.Pairwise (· < ·) → (∀ j, j ∈ rem ↔ j < ops.size ∧ listed.getD j true = false) → rem.length = fuel → listed.size = ops.size → Closed ops listed →
    ∀ {A K : Nat → Nat} {S : St} {a : Act} {w : World}, Rel C A K S a w → stepsIx call al rem S = some Sf → wpAnyIn (Fr ro) fm C.E.P .any ops Q fuel listed a w := by
  obtain ⟨g1, g2⟩ := cOpers_get hal
  simp only [drawOk, Bool.and_eq_true] at hd
  obtain ⟨hed, hpairs⟩ := hd
  intro fuel
  induction fuel with
  | zero =>
    intro listed rem hp hm hlen hsz hcl A K S a w R h
    have : rem = [] := List.length_eq_zero_iff.1 hlen
    subst this
    simp only [stepsIx, Option.some.injEq] at h
    subst h
    refine ⟨?_, hQ _ _ _ _ R⟩
    cases hr : Region.ready .any ops listed with
    | nil => rfl
    | cons i r =>
      have : i ∈ Region.ready .any ops listed := by rw [hr]; simp
      obtain ⟨h1, h2, _⟩ := ready_iff.1 this
      exact absurd ((hm i).2 ⟨h1, h2⟩) (by simp)
  | succ fuel ih =>
    intro listed rem hp hm hlen hsz hcl A K S a w R h
    refine ⟨fun hr => ?_, fun i hi => ?_⟩
    · -- the first that is left waits for none
      exfalso
      match rem, hlen with
      | i :: r, _ =>
        obtain ⟨h1, h2⟩ := (hm i).1 (by simp)
        have : i ∈ Region.ready .any ops listed := ready_iff.2 ⟨h1, h2, ops[i], by simp [h1], fun e he hb => by
          have hlt := edges_of ops.toList 0 hed i (by simpa using h1) e (by simpa using he) hb
          rw [Nat.zero_add] at hlt
          cases hq : listed.getD e.on false
          · exfalso
            have hin : e.on < listed.size := by omega
            have : listed.getD e.on true = false := by
              simp only [Array.getD_eq_getD_getElem?, Array.getElem?_eq_getElem hin] at hq ⊢; simpa using hq
            have hmem := (hm e.on).2 ⟨by omega, this⟩
            rcases List.mem_cons.1 hmem with h3 | h3
            · omega
            · have := (List.pairwise_cons.1 hp).1 _ h3; omega
          · rfl⟩
        rw [hr] at this; cases this
    · obtain ⟨h1, h2, o, ho, hpre⟩ := ready_iff.1 hi
      have himem := (hm i).2 ⟨h1, h2⟩
      obtain ⟨pre, post, rfl⟩ := List.append_of_mem himem
      have hial : i < al.length := by simp at g1; omega
      have hpw := List.pairwise_append.1 hp
      have hlt : ∀ p ∈ pre, p < i := fun p hp' => hpw.2.2 p hp' i (by simp)
      have hfirst := stepsIx_first (X := Sf) (call := call) (al := al) (i := i) (o := al[i]) (by simp [hial]) pre post S fun p hp' => by
        have hpi := hlt p hp'
        have hpal : p < al.length := by omega
        refine ⟨al[p], by simp [hpal], ?_⟩
        simp only [pairsOk, List.all_eq_true, List.mem_range, Bool.or_eq_true] at hpairs
        rcases hpairs i hial p hpi with hb | hb
        · exfalso
          have := bits_listed hed hcl i o ho hpre p hb
          have hp2 := ((hm p).1 (by simp [hp'])).2
          rw [getD_both hp2] at this; cases this
        · simpa [hpal, hial] using hb
      replace h := hfirst h
      simp only [stepsIx, List.getElem?_eq_getElem hial, Option.bind_eq_some_iff] at h
      obtain ⟨S1, hs1, hs2⟩ := h
      have hio : ops.toList[i]'(by simpa using h1) = o := by
        obtain ⟨_, e⟩ := Array.getElem?_eq_some_iff.1 ho; simpa using e
      refine (step_sound ⟨hI.P, hI.T, hI.np, hI.nt, hI.keep⟩ hI.small hE hC R ho (by rw [← hio]; exact g2 i (by simpa using h1) hial) hs1 fun A' K' a' w' R' => ?_).fr ro
      have hnodup : ∀ q, q ∈ pre ++ post → q ≠ i := fun q hq e => by
        subst e
        rcases List.mem_append.1 hq with hq | hq
        · have := hlt q hq; omega
        · have := (List.pairwise_cons.1 hpw.2.1).1 q hq; omega
      have hget : ∀ j d, (listed.setIfInBounds i true).getD j d = if j = i then true else listed.getD j d := fun j d => by
        simp only [Array.getD_eq_getD_getElem?, Array.getElem?_setIfInBounds]
        by_cases hji : i = j
        · subst hji
          have : i < listed.size := by omega
          simp [this]
        · simp [hji, show ¬ j = i from fun e => hji e.symm]
      refine ih (listed.setIfInBounds i true) (pre ++ post) ?_ (fun j => ?_) (by simp at hlen ⊢; omega) (by simpa using hsz) ?_ R' hs2
      · refine List.pairwise_append.2 ⟨hpw.1, (List.pairwise_cons.1 hpw.2.1).2, fun p hp' q hq => hpw.2.2 p hp' q (by simp [hq])⟩
      · rw [hget]
        constructor
        · intro hj
          have := (hm j).1 (by rcases List.mem_append.1 hj with h | h <;> simp [h])
          rw [if_neg (hnodup j hj)]
          exact this
        · rintro ⟨h3, h4⟩
          by_cases hji : j = i
          · rw [if_pos hji] at h4; cases h4
          · rw [if_neg hji] at h4
            have := (hm j).2 ⟨h3, h4⟩
            rcases List.mem_append.1 this with h | h
            · simp [h]
            · rcases List.mem_cons.1 h with h | h
              · exact absurd h hji
              · simp [h]
      · intro j hj p hp' e he hb
        rw [hget] at hj ⊢
        by_cases hei : e.on = i
        · rw [if_pos hei]
        · rw [if_neg hei]
          by_cases hji : j = i
          · subst hji
            rw [ho] at hp'; cases hp'
            exact hpre e he hb
          · rw [if_neg hji] at hj
            exact hcl j hj p hp' e he hb

/-- A REGION. -/
theorem region_sound {ro : Option Nat} {fm : Nat} {I : Info} (hI : Same I C) (hE : EnvOk C.E I.sents) {call : CallF} (hC : CallSound C.E call) {id : Nat} {ops : Array Oper} {draw : Bool} {al : List AOper} (hal : cOpers I ops ops.toList = some al) (hd : (!draw || drawOk ops al) = true) (R : Rel C A K S a w) {Sf : St}
    (h : steps call al S = some Sf) {Q : Exit → Act → World → Prop} (hQ : ∀ A' K' a' w', Rel C A' K' Sf a' w' → Q .normal a' w') : (Code.region id ops draw).wpIn (Fr ro) fm C.E.P Q a w := by
  obtain ⟨g1, g2⟩ := cOpers_get hal
  have hlen : al.length = ops.size := by simpa using g1.symm
  have hix := steps_ix (call := call) al [] S
  simp only [List.nil_append, List.length_nil] at hix
  rw [h, hlen] at hix
  cases draw with
  | false =>
    refine wpIn_region ?_
    rw [List.range_eq_range']
    exact region_seq hI hE hC hal hQ ops.size 0 (by omega) R hix
  | true =>
    have hd' : drawOk ops al = true := by simpa using hd
    refine wpIn_region_any hE.mixed ?_
    refine region_any hI hE hC hal hd' hQ ops.size (Array.replicate ops.size false) (List.range ops.size) List.pairwise_lt_range (fun j => ?_) (by simp) (by simp) ?_ (R.grew (Grew.drew w)) (by rw [List.range_eq_range']; exact hix)
    · simp only [List.mem_range, Array.getD_eq_getD_getElem?]
      constructor
      · intro hj; exact ⟨hj, by simp [hj]⟩
      · exact fun h => h.1
    · intro j hj
      simp only [Array.getD_eq_getD_getElem?] at hj
      exfalso
      by_cases hjl : j < ops.size <;> simp [hjl] at hj

end
end Zab

namespace Zab
open Go
set_option linter.unusedSimpArgs false
set_option linter.unusedVariables false

def _root_.Go.Obj.isCells' : Obj → Bool
  | .cells .. => true
  | _ => false

section
variable {C : Ctx} {A K : Nat → Nat} {S : St} {a : Act} {w : World}

theorem cell_turn {w : World} {l : Nat} {o o' : Obj} (h : w.heap[l]? = some o) (hc : o.isCells' = false) {b j : Nat} {v : Value} (hv : w.cell? ⟨b, j, none⟩ = some v) : b ≠ l ∧ (w.putObj l o').cell? ⟨b, j, none⟩ = some v := by
  have hne : b ≠ l := by
    rintro rfl
    simp only [World.cell?, h] at hv
    cases o <;> simp [Obj.isCells'] at hv hc
  exact ⟨hne, by rw [World.cell?_of_block (w := w) (World.putObj_heap_other hne)]; exact hv⟩

/-- A block that holds no cells turns. -/
theorem Rel.turn (R : Rel C A K S a w) {l : Nat} {o o' : Obj} (h : w.heap[l]? = some o) (hc : o.isCells' = false) (h0 : C.w0.heap.size ≤ l) {a' : Act} (ht : a'.tmps = a.tmps) (ha : ActOk C a' (w.putObj l o')) : Rel C A K S a' (w.putObj l o') := by
  have heap : ∀ {b : Nat}, b ≠ l → (w.putObj l o').heap[b]? = w.heap[b]? := fun hb => World.putObj_heap_other hb
  have ck : ∀ b, Still C A K S.l w b → ∀ j v, w.cell? ⟨b, j, none⟩ = some v → (w.putObj l o').cell? ⟨b, j, none⟩ = some v := fun b _ j v hv => (cell_turn h hc hv).2
  have hst : ∀ b, Still C A K S.l w b → Still C A K S.l (w.putObj l o') b := fun b hb => ⟨by simpa using hb.1, hb.2⟩
  have hcl : ∀ {b : Nat} {cc e f}, w.heap[b]? = some (.cells cc e f) → b ≠ l := fun hb e => by subst e; rw [h] at hb; cases hb; simp [Obj.isCells'] at hc
  have hfix : ∀ b, C.E.fixed b → b ≠ l := by
    rintro b ⟨g, c, hs, rfl | rfl⟩
    · exact (cell_turn (o' := o) h hc (R.glob.var b c hs)).1
    · obtain ⟨cc, e, hh, _⟩ := R.glob.obj g c hs; exact hcl hh
  exact {
    slot := fun i => by rw [ht]; exact (R.slot i).mono' hst ck
    row := fun d cs hd => by
      have hr := R.row d cs hd
      refine ⟨fun hf => ⟨(hr.flat hf).le, fun hk => ?_⟩, fun hf => ⟨(hr.ref hf).le, fun hk => ?_⟩⟩
      · obtain ⟨cc, e, h1, h2, h3⟩ := (hr.flat hf).row hk
        exact ⟨cc, e, by rw [heap (hcl h1)]; exact h1, h2, fun j hj => let ⟨v, p, q⟩ := h3 j hj; ⟨v, p, q.mono' hst ck⟩⟩
      · obtain ⟨cc, e, h1, h2, h3⟩ := (hr.ref hf).row hk
        exact ⟨cc, e, by rw [heap (hcl h1)]; exact h1, h2, fun j hj => let ⟨v, p, o, q, s⟩ := h3 j hj; ⟨v, p, o, q, s.mono' hst ck⟩⟩
    inj := R.inj, own := R.own, arg := R.arg
    glob := R.glob.same fun b hb => heap (hfix b hb)
    frame := fun b hb hm => (heap (by omega)).trans (R.frame b hb hm)
    size := by simpa using R.size
    os := R.os, tape := R.tape, output := R.output, act := ha, xlt := R.xlt, npl := R.npl }

/-- The context of a round: where it began, what may be written. -/
abbrev rC (C : Ctx) (w0 : World) (M : Nat → Prop) (ks : List Nat) (t : Array Value) : Ctx :=
  { C with w0 := w0, M := M, ks := ks, t0 := fun i => t.getD i undef, fix := true }
abbrev liveB (A K : Nat → Nat) (l : List (Nat × List AV)) (b : Nat) : Prop := ∃ d, Live l K d ∧ A d = b

theorem round_in (R : Rel C A K S a w) {ks : List Nat} {p : Nat} {x : AV} {v : Value} (hp : p < C.nt) (hpk : p ∉ ks) (hx : VRep C.E C.np w (Still C A K S.l w) A K x v) :
    Rel (rC C w (liveB A K S.l) ks a.tmps) A K { S with s := put S.s p x } { tmps := a.tmps.setIfInBounds p v, defers := [] } w where
  slot := fun i => by
    have hsz := R.tsz
    show VRep _ _ _ _ _ _ (get (put S.s p x) i) _
    rw [get_put]
    by_cases hi : i = p
    · subst hi
      have : (a.tmps.setIfInBounds i v).getD i undef = v := by simp [Array.getD_eq_getD_getElem?, Array.getElem?_setIfInBounds, hsz, hp]
      rw [if_pos rfl, this]; exact hx
    · have : (a.tmps.setIfInBounds p v).getD i undef = a.tmps.getD i undef := by simp [Array.getD_eq_getD_getElem?, Array.getElem?_setIfInBounds, show ¬ p = i from fun e => hi e.symm]
      rw [if_neg hi, this]; exact R.slot i
  row := R.row
  inj := R.inj
  own := fun d hd => ⟨.inr ⟨d, hd, rfl⟩, (R.own d hd).2⟩
  arg := R.arg
  glob := R.glob
  frame := fun _ _ _ => rfl
  size := Nat.le_refl _
  os := rfl
  tape := rfl
  output := rfl
  act := ⟨fun d h => by simp at h, List.nodup_nil, by simpa using R.tsz, fun i hi => by
    have hne : p ≠ i := fun e => hpk (e ▸ hi)
    simp [Array.getD_eq_getD_getElem?, Array.getElem?_setIfInBounds, hne], fun _ => rfl⟩
  xlt := fun b hb => Nat.lt_of_lt_of_le (R.xlt b hb) R.size
  npl := R.npl

/-- The same state, told from here on; a block that holds no cells may have turned. -/
theorem round_re {w0 : World} {M : Nat → Prop} {ks : List Nat} {t : Array Value} (R : Rel (rC C w0 M ks t) A K S a w) {l : Nat} {o o' : Obj} (h : w.heap[l]? = some o) (hc : o.isCells' = false) :
    Rel (rC C (w.putObj l o') (liveB A K S.l) ks t) A K S a (w.putObj l o') := by
  have heap : ∀ {b : Nat}, b ≠ l → (w.putObj l o').heap[b]? = w.heap[b]? := fun hb => World.putObj_heap_other hb
  have ck : ∀ b, Still (rC C w0 M ks t) A K S.l w b → ∀ j v, w.cell? ⟨b, j, none⟩ = some v → (w.putObj l o').cell? ⟨b, j, none⟩ = some v := fun b _ j v hv => (cell_turn h hc hv).2
  have hst : ∀ b, Still (rC C w0 M ks t) A K S.l w b → Still (rC C (w.putObj l o') (liveB A K S.l) ks t) A K S.l (w.putObj l o') b := fun b hb => ⟨by simpa using hb.1, hb.2⟩
  have hcl : ∀ {b : Nat} {cc e f}, w.heap[b]? = some (.cells cc e f) → b ≠ l := fun hb e => by subst e; rw [h] at hb; cases hb; simp [Obj.isCells'] at hc
  have hfix : ∀ b, C.E.fixed b → b ≠ l := by
    rintro b ⟨g, c, hs, rfl | rfl⟩
    · exact (cell_turn (o' := o) h hc (R.glob.var b c hs)).1
    · obtain ⟨cc, e, hh, _⟩ := R.glob.obj g c hs; exact hcl hh
  exact {
    slot := fun i => (R.slot i).mono' hst ck
    row := fun d cs hd => by
      have hr := R.row d cs hd
      refine ⟨fun hf => ⟨(hr.flat hf).le, fun hk => ?_⟩, fun hf => ⟨(hr.ref hf).le, fun hk => ?_⟩⟩
      · obtain ⟨cc, e, h1, h2, h3⟩ := (hr.flat hf).row hk
        exact ⟨cc, e, by rw [heap (hcl h1)]; exact h1, h2, fun j hj => let ⟨v, p, q⟩ := h3 j hj; ⟨v, p, q.mono' hst ck⟩⟩
      · obtain ⟨cc, e, h1, h2, h3⟩ := (hr.ref hf).row hk
        exact ⟨cc, e, by rw [heap (hcl h1)]; exact h1, h2, fun j hj => let ⟨v, p, o, q, s⟩ := h3 j hj; ⟨v, p, o, q, s.mono' hst ck⟩⟩
    inj := R.inj
    own := fun d hd => ⟨.inr ⟨d, hd, rfl⟩, (R.own d hd).2⟩
    arg := R.arg
    glob := R.glob.same fun b hb => heap (hfix b hb)
    frame := fun _ _ _ => rfl
    size := Nat.le_refl _
    os := rfl, tape := rfl, output := rfl
    act := ⟨fun d hd => (by rw [R.act.none rfl] at hd; cases hd), R.act.nodup, R.act.tsz, R.act.keep, R.act.none⟩
    xlt := fun b hb => by
      have h1 := R.xlt b hb
      have h2 := R.size
      simp only [World.putObj_size]
      exact Nat.lt_of_lt_of_le h1 h2
    npl := R.npl }

theorem keep_in (S : St) (ks : List Nat) (i : Nat) (hi : i ∉ ks) : get (keepS ks S.s) i = .gone := by
  induction ks with
  | nil => rfl
  | cons k r ih =>
    simp only [List.mem_cons, not_or] at hi
    have hb : Nat.beq k i = false := by rw [← Bool.not_eq_true, Nat.beq_eq]; exact fun e => hi.1 e.symm
    simp only [keepS, get, hb, cond_false]; exact ih hi.2

/-- Back to the state between two rounds. -/
theorem round_out (R : Rel C A K S a w) {w0 : World} {M : Nat → Prop} {ks : List Nat} {A' K' : Nat → Nat} {S' : St} {a' : Act} {w' : World} (R' : Rel (rC C w0 M ks a.tmps) A' K' S' a' w') (kr : List Nat) {l : Nat} {r : Loop}
    (hF : ∀ b, b < w.heap.size → ¬ liveB A K S.l b → b ≠ l → w'.heap[b]? = w.heap[b]?) (hO : ∀ d, Live S'.l K' d → w.heap.size ≤ A' d ∨ liveB A K S.l (A' d))
    (hl : C.w0.heap.size ≤ l) (hlo : w.heap[l]? = some (.loop r)) (hsz : w.heap.size ≤ w'.heap.size) (hos : w'.os = w.os) (htp : w'.tape = w.tape) (hou : w'.output = w.output) : Rel C A' K' (S'.clean ks kr) a w' := by
  have hn : ∀ b, b < C.w0.heap.size → ¬ C.M b → ¬ liveB A K S.l b := fun b hb hm ⟨d, hd, e⟩ => by
    rcases (R.own d hd).1 with h | h
    · omega
    · rw [e] at h; exact hm h
  have hll : ∀ d, look (S'.clean ks kr).l d = look S'.l d ∨ look (S'.clean ks kr).l d = none := fun d => look_clean kr S'.l d
  have live : ∀ {d}, Live (S'.clean ks kr).l K' d → Live S'.l K' d := fun h => live_less hll h
  have still : ∀ b, Still (rC C w0 M ks a.tmps) A' K' S'.l w' b → Still C A' K' (S'.clean ks kr).l w' b := fun b hb => ⟨hb.1, hb.2.1, fun d hd => hb.2.2 d (live hd)⟩
  exact {
    slot := fun i => by
      show VRep _ _ _ _ _ _ (get (keepS ks S'.s) i) _
      by_cases hi : i ∈ ks
      · rcases get_keep ks S'.s i with h | h
        · rw [h]
          have := R'.slot i
          rw [R'.act.keep i hi] at this
          exact this.mono still (fun _ _ => rfl) (fun _ _ => ⟨rfl, rfl⟩)
        · rw [h]; exact .one (.gone _)
      · rw [keep_in S' ks i hi]; exact .one (.gone _)
    row := fun d cs hd => by
      rcases hll d with h1 | h1
      · exact (R'.row d cs (by rw [← h1]; exact hd)).mono still (fun _ _ => rfl) (fun _ => rfl) (fun _ _ => ⟨rfl, rfl⟩)
      · rw [h1] at hd; cases hd
    inj := fun d e hd he h => R'.inj d e (live hd) (live he) h
    own := fun d hd => ⟨by
      rcases hO d (live hd) with h1 | ⟨d0, h1, h2⟩
      · exact .inl (Nat.le_trans R.size h1)
      · rw [← h2]; exact (R.own d0 h1).1, (R'.own d (live hd)).2⟩
    arg := fun d hd h => R'.arg d hd (by
      rcases hll d with h1 | h1
      · rw [← h1]; exact h
      · exact absurd h1 h)
    glob := R'.glob
    frame := fun b hb hm => (hF b (Nat.lt_of_lt_of_le hb R.size) (hn b hb hm) (by omega)).trans (R.frame b hb hm)
    size := Nat.le_trans R.size hsz
    os := hos.trans R.os
    tape := htp.trans R.tape
    output := hou.trans R.output
    act := R.act.mono fun D h1 h2 => by
      have hs := R.markStill h1 h2
      exact hF D hs.1 (fun ⟨d, hd, e⟩ => hs.2.2 d hd e) (fun e => by subst e; rw [hlo] at h2; cases h2)
    xlt := R.xlt
    npl := R.npl }

/-! ### One round -/

/-- The state between two rounds. -/
structure Inv (C : Ctx) (A K : Nat → Nat) (S : St) (am : Act) (Kept : Nat → Prop) (w : World) (l : Nat) (r : Loop) (W : World) : Prop where
  R : Rel C A K S am W
  loop : W.heap[l]? = some (.loop r)
  kept : ∀ b, Kept b → Still C A K S.l W b ∧ W.heap[b]? = w.heap[b]?
  old : C.w0.heap.size ≤ l
  away : ∀ b, Kept b → b ≠ l

theorem Inv.grew {am : Act} {Kept : Nat → Prop} {l : Nat} {r : Loop} {W W' : World} (I : Inv C A K S am Kept w l r W) (G : Grew W W') : Inv C A K S am Kept w l r W' :=
  ⟨I.R.grew G, (G.block _ (Array.getElem?_eq_some_iff.1 I.loop).1).trans I.loop, fun b hb => ⟨(I.kept b hb).1.grew G.size, (G.block _ (I.kept b hb).1.1).trans (I.kept b hb).2⟩, I.old, I.away⟩

theorem Inv.turn {am : Act} {Kept : Nat → Prop} {l : Nat} {r : Loop} {W : World} (I : Inv C A K S am Kept w l r W) (r' : Loop) : Inv C A K S am Kept w l r' (W.putObj l (.loop r')) := by
  refine ⟨I.R.turn I.loop rfl I.old rfl (I.R.act.mono fun D h1 h2 => World.putObj_heap_other fun e => by subst e; rw [I.loop] at h2; cases h2), World.putObj_heap_same (Array.getElem?_eq_some_iff.1 I.loop).1, fun b hb => ?_, I.old, I.away⟩
  have := I.kept b hb
  exact ⟨⟨by simpa using this.1.1, this.1.2⟩, (World.putObj_heap_other (I.away b hb)).trans this.2⟩

def exC : Ex → Exit
  | .normal => .normal
  | .ret => .ret
  | .exit id => .exit id

/-- How a body's code is known to go. -/
def Sound (C : Ctx) (ks : List Nat) (c : Code) (ev : St → Option (Ex × St)) : Prop :=
  ∀ (fm : Nat) (w0 : World) (M : Nat → Prop) (t : Array Value) (l : Nat) (ex : Ex) (Sf S : St) (A K : Nat → Nat) (a : Act) (w : World), Rel (rC C w0 M ks t) A K S a w → ev S = some (ex, Sf) → ∀ Q, (∀ A' K' a' w', Rel (rC C w0 M ks t) A' K' Sf a' w' → Q (exC ex) a' w') → c.wpIn (Fr (some l)) fm C.E.P Q a w

def isN : Ex → Bool
  | .normal => true
  | _ => false

theorem one_round {am : Act} {Kept : Nat → Prop} {l fm fn p D : Nat} {W : World} {ks kr : List Nat} {asg body : Code} {evA evB : St → Option (Ex × St)} {rec : LoopState → Option Code → Loop}
    (hrec : rec = fun st pe => { state := st, pending := pe, fn := fn, tmps := am.tmps, params := #[p], assign := asg, body := body, defers := D })
    (hA : Sound C ks asg evA) (hB : Sound C ks body evB) (hp : p < C.nt) (hpk : p ∉ ks) (I : Inv C A K S am Kept w l (rec .ready none) W)
    {x : AV} {v : Value} (hx : VRep C.E C.np W (Still C A K S.l W) A K x v) {S1 S2 : St} {e : Ex} (h1 : evA { S with s := put S.s p x } = some (.normal, S1)) (h2 : evB S1 = some (e, S2)) {R : Ending → World → Prop}
    (hR : ∀ A' K' W', Inv C A' K' (S2.clean ks kr) am Kept w l (match e with | .normal => rec .ready none | .ret => rec .done (some .ret) | .exit id => rec .done (some (.exit id))) W' → R (.returned (.bool (isN e))) W') :
    RoundIn (Fr none) fm C.E.P l fn (am.tmps.setIfInBounds p v) asg body W R := by
  refine roundIn_of_wpIn trivial ?_
  have R0 := round_in I.R (ks := ks) hp hpk hx
  refine hA _ W _ am.tmps l _ _ _ _ _ _ _ R0 h1 _ fun A1 K1 a1 W1 R1 => ?_
  have hll : l < W.heap.size := (Array.getElem?_eq_some_iff.1 I.loop).1
  have nlive : ¬ liveB A K S.l l := fun ⟨d, hd, e⟩ => by
    cases hq : look S.l d with
    | none => exact hd.1 hq
    | some cs =>
      obtain ⟨cc, t, hh, _⟩ := (I.R.row d cs hq).block hd.2
      rw [e, I.loop] at hh; cases hh
  have F1 : ∀ b, b < W.heap.size → ¬ liveB A K S.l b → W1.heap[b]? = W.heap[b]? := fun b hb hn => R1.frame b hb hn
  have O1 : ∀ d, Live S1.l K1 d → W.heap.size ≤ A1 d ∨ liveB A K S.l (A1 d) := fun d hd => (R1.own d hd).1
  have hl1 : W1.heap[l]? = some (.loop (rec .ready none)) := (F1 l hll nlive).trans I.loop
  refine ⟨W1.putObj l (.loop (rec .busy none)), by have := run_beginRound (P := C.E.P) hl1 (by rw [hrec]); rw [hrec] at this ⊢; exact this, ?_⟩
  have R1' := round_re R1 (o' := .loop (rec .busy none)) hl1 rfl
  refine hB _ _ _ am.tmps l _ _ _ _ _ _ _ R1' h2 _ fun A2 K2 a2 W3 R2 => ?_
  have hsz1 : W.heap.size ≤ W1.heap.size := R1.size
  have hsz2 : W1.heap.size ≤ W3.heap.size := by have := R2.size; simpa using this
  have nl1 : ∀ b, b < W.heap.size → ¬ liveB A K S.l b → ¬ liveB A1 K1 S1.l b := fun b hb hn ⟨d, hd, e⟩ => by
    rcases O1 d hd with h | h
    · omega
    · rw [e] at h; exact hn h
  have F2 : ∀ b, b < W1.heap.size → ¬ liveB A1 K1 S1.l b → b ≠ l → W3.heap[b]? = W1.heap[b]? := fun b hb hn hbl => (R2.frame b (by simpa using hb) hn).trans (World.putObj_heap_other hbl)
  have F : ∀ b, b < W.heap.size → ¬ liveB A K S.l b → b ≠ l → W3.heap[b]? = W.heap[b]? := fun b hb hn hbl => (F2 b (by omega) (nl1 b hb hn) hbl).trans (F1 b hb hn)
  have O : ∀ d, Live S2.l K2 d → W.heap.size ≤ A2 d ∨ liveB A K S.l (A2 d) := fun d hd => by
    rcases (R2.own d hd).1 with h | ⟨d1, h, h'⟩
    · have h : (W1.putObj l (.loop (rec .busy none))).heap.size ≤ A2 d := h
      simp only [World.putObj_size] at h; exact .inl (by omega)
    · rw [← h']; exact O1 d1 h
  have hl3 : W3.heap[l]? = some (.loop (rec .busy none)) := by
    refine (R2.frame l (by simp; omega) (nl1 l hll nlive)).trans ?_
    exact World.putObj_heap_same (by omega)
  have hRo := round_out I.R R2 kr F O I.old I.loop (by omega) (R2.os.trans R1.os) (R2.tape.trans R1.tape) (R2.output.trans R1.output)
  have hI : Inv C A2 K2 (S2.clean ks kr) am Kept w l (rec .busy none) W3 := ⟨hRo, hl3, fun b hb => by
    obtain ⟨k1, k2⟩ := I.kept b hb
    have hn : ¬ liveB A K S.l b := fun ⟨d, hd, e⟩ => k1.2.2 d hd e
    refine ⟨⟨by have := k1.1; omega, k1.2.1, fun d hd e => ?_⟩, (F b k1.1 hn (I.away b hb)).trans k2⟩
    rcases O d (live_less (fun d => look_clean kr S2.l d) hd) with h | h
    · have := k1.1; omega
    · rw [e] at h; exact hn h, I.old, I.away⟩
  cases e with
  | normal =>
    have := run_endRound (P := C.E.P) none hl3
    refine ⟨_, _, this, ?_⟩
    refine hR A2 K2 _ ?_
    have := hI.turn (rec .ready none)
    rw [hrec] at this ⊢
    exact this
  | ret =>
    have := run_endRound (P := C.E.P) (some .ret) hl3
    refine ⟨_, _, this, ?_⟩
    refine hR A2 K2 _ ?_
    have := hI.turn (rec .done (some .ret))
    rw [hrec] at this ⊢
    exact this
  | exit id =>
    have := run_endRound (P := C.E.P) (some (.exit id)) hl3
    refine ⟨_, _, this, ?_⟩
    refine hR A2 K2 _ ?_
    have := hI.turn (rec .done (some (.exit id)))
    rw [hrec] at this ⊢
    exact this

end
end Zab

namespace Zab
open Go
set_option linter.unusedSimpArgs false
set_option linter.unusedVariables false

/-- The context of that code's own activation. -/
abbrev itC (E : Env) (W : World) (Kept : Nat → Prop) (ks : List Nat) (t : Array Value) : Ctx :=
  ⟨E, W, fun _ => False, fun b => b < W.heap.size ∧ ¬ Kept b, 3, 31, fun _ => 0, fun _ => 0, ks, fun i => t.getD i undef, true⟩

abbrev itI (P : Program) (T : TypeId) (ks : List Nat) : Info := ⟨P, T, [], [], [], 3, 31, ks, true⟩

theorem EnvOk.none {E : Env} {sents : List Nat} (h : EnvOk E sents) : EnvOk E [] :=
  { h with sent := fun g hg => by simp [sentB, memb] at hg, chunk := fun f hf => by simp [memb] at hf }

theorem it_rel {E : Env} {W : World} {Kept : Nat → Prop} (G : GOk E W) {t : Array Value} (hsz : t.size = 31) (ks : List Nat) {s : List (Nat × AV)}
    (hs : ∀ i, VRep E 3 W (fun b => b < W.heap.size ∧ Kept b) (fun _ => 0) (fun _ => 0) (get s i) (t.getD i undef)) :
    Rel (itC E W Kept ks t) (fun _ => 0) (fun _ => 0) ⟨s, []⟩ ⟨t, []⟩ W where
  slot := fun i => (hs i).mono (fun b hb => ⟨hb.1, fun hx => hx.2 hb.2, fun d hd => absurd rfl hd.1⟩) (fun _ _ => rfl) (fun _ _ => ⟨rfl, rfl⟩)
  row := fun d cs h => by cases h
  inj := fun d e hd => absurd rfl hd.1
  own := fun d hd => absurd rfl hd.1
  arg := fun d _ h => absurd rfl h
  glob := G
  frame := fun _ _ _ => rfl
  size := Nat.le_refl _
  os := rfl
  tape := rfl
  output := rfl
  act := ⟨fun d h => by simp at h, List.nodup_nil, hsz, fun i _ => rfl, fun _ => rfl⟩
  xlt := fun b hb => hb.1
  npl := by show (3 : Nat) ≤ 1000000; decide

theorem it_grew {E : Env} {W W' : World} {Kept : Nat → Prop} {ks : List Nat} {t : Array Value} {A K : Nat → Nat} {S : St} {a : Act} (R : Rel (itC E W Kept ks t) A K S a W') : Grew W W' :=
  ⟨R.size, fun b hb => R.frame b hb (fun h => h), R.os, R.tape, R.output⟩

/-- A pointer to cells that stay. -/
theorem el_any {E : Env} {np np' : Nat} {w w' : World} {N N' : Nat → Prop} {A K A' K' : Nat → Nat} {cs : List AV} {o : Nat} {v : Value} (h : V1 E np w N A K (.el cs o) v) (hN : ∀ b, N b → N' b) (hw : ∀ b, N b → w'.heap[b]? = w.heap[b]?) : V1 E np' w' N' A' K' (.el cs o) v := by
  cases h with
  | flat h => cases h
  | el _ _ blk off f hN0 hc h1 => exact .el cs o blk off f (hN _ hN0) (fun j hj => by rw [World.cell?_of_block (w := w) (hw blk hN0)]; exact hc j hj) (fun j hj => (h1 j hj).mono hN hw)

/-- A few operations, then the rest of the list. -/
theorem seg_sound {C : Ctx} {ro : Option Nat} {fm : Nat} {I : Info} (hI : Same I C) (hE : EnvOk C.E I.sents) {call : CallF} (hC : CallSound C.E call) {ops : Array Oper} {al : List AOper} {k0 : Nat} (hal : ∀ j (h0 : k0 ≤ j) (h1 : j < ops.size) (h2 : j < al.length), cOper I ops ops[j] = some al[j]) {Q : Exit → Act → World → Prop} {Sf : St} {rest : List Nat}
    (hQ : ∀ A' K' a' w', Rel C A' K' Sf a' w' → wpOpsIn (Fr ro) fm C.E.P ops Q rest a' w') : ∀ (n k : Nat), k0 ≤ k → k + n ≤ ops.size → k + n ≤ al.length → ∀ {A K : Nat → Nat} {S : St} {a : Act} {w : World}, Rel C A K S a w → steps call ((al.drop k).take n) S = some Sf → wpOpsIn (Fr ro) fm C.E.P ops Q (List.range' k n ++ rest) a w := by
  intro n
  induction n with
  | zero => intro k _ _ _ A K S a w R h; simp only [List.take_zero, steps, Option.some.injEq] at h; subst h; exact hQ _ _ _ _ R
  | succ n ih =>
    intro k hk0 hk hk2 A K S a w R h
    have hka : k < al.length := by omega
    have hko : k < ops.size := by omega
    simp only [List.range'_succ, List.cons_append]
    rw [wpOpsIn_cons]
    have e1 : (al.drop k).take (n + 1) = al[k] :: (al.drop (k + 1)).take n := by
      rw [List.drop_eq_getElem_cons hka, List.take_succ_cons]
    rw [e1] at h
    simp only [steps] at h
    split at h <;> first | (cases h; done) | skip
    rename_i S1 h1
    exact (step_sound ⟨hI.P, hI.T, hI.np, hI.nt, hI.keep⟩ hI.small hE hC R (by simp [hko]) (hal k hk0 hko hka) h1 fun A' K' a' w' R' => ih (k + 1) (by omega) (by omega) (by omega) R' h).fr ro

/-- Slots of that code: where it stands, how many at once, the bytes. -/
abbrev s3 (i : Int) (k : Int) (x : AV) : List (Nat × AV) := [(4, .i .i64 i), (2, .el [.i .i64 k] 0), (1, .el [x] 0)]

theorem wrap_id {n : Int} (h0 : 0 ≤ n) (h1 : n ≤ 9223372036854775807) : IntKind.i64.wrap n = n := by
  have e : n % (2 ^ 64 : Int) = n := Int.emod_eq_of_lt h0 (by omega)
  simp only [IntKind.wrap, IntKind.bits, IntKind.signed, e]
  rw [if_neg (by simp; omega)]

section
variable {call : CallF}
def lenX : AV → Nat
  | .sl _ n => n
  | _ => 0
def bytesX : AV → Bool
  | .sl _ _ | .z => true
  | _ => false

theorem steps1 (i : Nat) (k : Int) (x : AV) (hx : bytesX x = true) : steps call [⟨some 6, .move (.tmp 4), none⟩, ⟨some 7, .load none (.tmp 1), none⟩, ⟨some 8, .len false (.tmp 7), none⟩, ⟨some 9, .bin .no .lss (.tmp 6) (.tmp 8), none⟩] ⟨s3 i k x, []⟩ =
    some ⟨[(9, .b (decide (i < lenX x))), (8, .i .i64 (lenX x)), (7, x), (6, .i .i64 i), (4, .i .i64 i), (2, .el [.i .i64 k] 0), (1, .el [x] 0)], []⟩ := by
  cases x <;> first | (cases hx; done) | skip
  · simp [steps, step, wants, AOp.cls, pureV, readV, evalO, get, put, partV, St.putD, binV, intV, lenX, Nat.beq, Nat.blt, Nat.ble]
    try congr
  · simp [steps, step, wants, AOp.cls, pureV, readV, evalO, get, put, partV, St.putD, binV, intV, lenX, Nat.beq, Nat.blt, Nat.ble]

theorem min_cast (k m : Nat) : (if ((m : Nat) : Int) < (k : Int) then (m : Int) else (k : Int)) = ((min k m : Nat) : Int) := by
  split <;> omega

theorem steps3 (i k m : Nat) (cs : List AV) (hi : i ≤ m) : steps call [⟨some 13, .load none (.tmp 2), none⟩, ⟨some 14, .load none (.tmp 1), none⟩, ⟨some 15, .move (.tmp 4), none⟩, ⟨some 16, .slc 1 (.tmp 14) (some (.tmp 15)) none none, none⟩, ⟨some 17, .len false (.tmp 16), none⟩, ⟨some 18, .mn [.tmp 13, .tmp 17], none⟩, ⟨some 5, .move (.tmp 18), none⟩] ⟨s3 i k (.sl cs m), []⟩ =
    some ⟨[(18, .i .i64 (min k (m - i) : Nat)), (17, .i .i64 (m - i : Nat)), (16, .sl ((cs.drop i).take (m - i)) (m - i)), (15, .i .i64 i), (14, .sl cs m), (13, .i .i64 k), (5, .i .i64 (min k (m - i) : Nat)), (4, .i .i64 i), (2, .el [.i .i64 k] 0), (1, .el [.sl cs m] 0)], []⟩ := by
  have hb : Nat.ble i m = true := Nat.ble_eq_true_of_le hi
  have hb2 : Nat.ble m m = true := Nat.ble_eq_true_of_le (Nat.le_refl m)
  simp [steps, step, wants, AOp.cls, pureV, readV, evalO, get, put, partV, St.putD, Nat.beq, Nat.blt, Nat.ble, slcV, idx, hb, hb2, evalL, minV]
  rw [← min_cast]
  split
  · simp_all
  · simp_all
    try (intro _; omega)

theorem steps4 (i e m : Nat) (k : Int) (cs : List AV) (hi : i + e ≤ m) (hm : m ≤ 2305843009213693952) : steps call [⟨some 20, .load none (.tmp 1), none⟩, ⟨some 21, .move (.tmp 4), none⟩, ⟨some 22, .move (.tmp 4), none⟩, ⟨some 23, .move (.tmp 5), none⟩, ⟨some 24, .bin .no .add (.tmp 22) (.tmp 23), none⟩, ⟨some 25, .move (.tmp 4), none⟩, ⟨some 26, .move (.tmp 5), none⟩, ⟨some 27, .bin .no .add (.tmp 25) (.tmp 26), none⟩, ⟨some 28, .slc 1 (.tmp 20) (some (.tmp 21)) (some (.tmp 24)) (some (.tmp 27)), none⟩] ⟨(5, .i .i64 e) :: s3 i k (.sl cs m), []⟩ =
    some ⟨[(28, .sl ((cs.drop i).take e) e), (27, .i .i64 ((i + e : Nat) : Int)), (26, .i .i64 e), (25, .i .i64 i), (24, .i .i64 ((i + e : Nat) : Int)), (23, .i .i64 e), (22, .i .i64 i), (21, .i .i64 i), (20, .sl cs m), (5, .i .i64 e), (4, .i .i64 i), (2, .el [.i .i64 k] 0), (1, .el [.sl cs m] 0)], []⟩ := by
  have hw : IntKind.i64.wrap ((i : Int) + (e : Int)) = ((i + e : Nat) : Int) := by rw [wrap_id (by omega) (by omega)]; omega
  have h1 : Nat.ble i (i + e) = true := Nat.ble_eq_true_of_le (by omega)
  have h2 : Nat.ble (i + e) (i + e) = true := Nat.ble_eq_true_of_le (by omega)
  have h3 : Nat.ble (i + e) m = true := Nat.ble_eq_true_of_le hi
  have h4 : ((i + e : Nat) : Int).toNat = i + e := by omega
  have h5 : (0 : Int) ≤ ((i + e : Nat) : Int) := by omega
  have h6 : i + e - i = e := by omega
  generalize ((i + e : Nat) : Int) = u at *
  simp [steps, step, wants, AOp.cls, pureV, readV, evalO, get, put, partV, St.putD, Nat.beq, Nat.blt, Nat.ble, slcV, idx, binV, intV, hw, h1, h2, h3, h4, h5, h6]

theorem steps2 (i k : Nat) (x : AV) (hi : i ≤ 2305843009213693952) (hk : k ≤ 2305843009213693952) : steps call [⟨some 10, .move (.tmp 4), none⟩, ⟨some 11, .load none (.tmp 2), none⟩, ⟨some 12, .bin .no .add (.tmp 10) (.tmp 11), none⟩, ⟨some 4, .move (.tmp 12), none⟩] ⟨s3 i k x, []⟩ =
    some ⟨[(12, .i .i64 ((i + k : Nat) : Int)), (11, .i .i64 k), (10, .i .i64 i), (4, .i .i64 ((i + k : Nat) : Int)), (2, .el [.i .i64 k] 0), (1, .el [x] 0)], []⟩ := by
  have hw : IntKind.i64.wrap ((i : Int) + (k : Int)) = ((i + k : Nat) : Int) := by rw [wrap_id (by omega) (by omega)]; omega
  generalize ((i + k : Nat) : Int) = u at *
  simp [steps, step, wants, AOp.cls, pureV, readV, evalO, get, put, partV, St.putD, Nat.beq, Nat.blt, Nat.ble, binV, intV, hw]
end

theorem move_inv {P : Program} {T : TypeId} {sents : List Nat} {ann : Ann} {o : Oper} {x : Operand} (h : cOp P T sents ann o = some (.move x)) : o.op = .move x ∨ o.op = .assign x := by
  unfold cOp cCall at h
  simp only [Bool.cond_eq_ite] at h
  split at h
  case h_1 y ho => cases h; exact .inl ho
  case h_2 y ho =>
    revert h
    repeat' split
    all_goals (intro h; cases h)
    all_goals exact .inr ho
  all_goals (exfalso; revert h; repeat' split)
  all_goals (intro h; cases h)

theorem vreps_of {E : Env} {np : Nat} {w : World} {N : Nat → Prop} {A K : Nat → Nat} {t : Array Value} : ∀ {s : List (Nat × AV)}, (∀ p ∈ s, VRep E np w N A K p.2 (t.getD p.1 undef)) → ∀ i, VRep E np w N A K (get s i) (t.getD i undef)
  | [], _, i => .one (.gone _)
  | (j, v) :: r, h, i => by
    simp only [get]
    cases hb : Nat.beq j i
    · simp only [cond_false]; exact vreps_of (fun p hp => h p (by simp [hp])) i
    · have := Nat.eq_of_beq_eq_true hb
      subst this
      simp only [cond_true]; exact h (j, v) (by simp)

/-- What that code's slots are known to hold. -/
structure ItT (C : Ctx) (Kept : Nat → Prop) (w : World) (l : Nat) (k : Nat) (x : AV) (t : Array Value) (i : Nat) : Prop where
  size : t.size = 31
  y : t.getD 0 undef = .func (.yield l) #[] #[]
  v1 : V1 C.E 3 w Kept (fun _ => 0) (fun _ => 0) (.el [x] 0) (t.getD 1 undef)
  v2 : V1 C.E 3 w Kept (fun _ => 0) (fun _ => 0) (.el [.i .i64 k] 0) (t.getD 2 undef)
  i : t.getD 4 undef = .int .i64 i

section
variable {C : Ctx} {am : Act} {Kept : Nat → Prop} {w : World} {l fm p D : Nat} {ks kr : List Nat} {asg body : Code} {evA evB : St → Option (Ex × St)} {rec : LoopState → Option Code → Loop} {call : CallF} {k m : Nat} {cs : List AV} {x : AV}

theorem ItT.rel {A K : Nat → Nat} {S : St} {r : Loop} {W : World} {t : Array Value} {i : Nat} (T : ItT C Kept w l k x t i) (I : Inv C A K S am Kept w l r W) (ks : List Nat) {ex : List (Nat × AV)}
    (hex : ∀ p ∈ ex, VRep C.E 3 W (fun b => b < W.heap.size ∧ Kept b) (fun _ => 0) (fun _ => 0) p.2 (t.getD p.1 undef)) : Rel (itC C.E W Kept ks t) (fun _ => 0) (fun _ => 0) ⟨ex ++ s3 i k x, []⟩ ⟨t, []⟩ W := by
  refine it_rel I.R.glob T.size ks (vreps_of fun p hp => ?_)
  have hN : ∀ b, Kept b → b < W.heap.size ∧ Kept b := fun b hb => ⟨(I.kept b hb).1.1, hb⟩
  have hw : ∀ b, Kept b → W.heap[b]? = w.heap[b]? := fun b hb => (I.kept b hb).2
  rcases List.mem_append.1 hp with hp | hp
  · exact hex p hp
  · simp only [s3, List.mem_cons, List.not_mem_nil, or_false] at hp
    rcases hp with rfl | rfl | rfl
    · simp only [T.i]; exact .one (.flat (.i _ _))
    · exact .one (el_any T.v2 hN hw)
    · exact .one (el_any T.v1 hN hw)

/-- What stays for that code stays for the caller. -/
theorem ItT.still {A K : Nat → Nat} {S : St} {r : Loop} {W W' : World} (I : Inv C A K S am Kept w l r W) {t : Array Value} {A' K' : Nat → Nat} {S' : St} {a' : Act} {ks : List Nat} (R' : Rel (itC C.E W Kept ks t) A' K' S' a' W') {b : Nat} (hb : Still (itC C.E W Kept ks t) A' K' S'.l W' b) : Still C A K S.l W' b := by
  have hs : W.heap.size ≤ W'.heap.size := R'.size
  by_cases hlt : b < W.heap.size
  · have hk : Kept b := Classical.byContradiction fun hn => hb.2.1 ⟨hlt, hn⟩
    exact (I.kept b hk).1.grew hs
  · refine ⟨hb.1, fun hx => ?_, fun d hd e => ?_⟩
    · have h1 := I.R.xlt b hx
      have h2 := I.R.size
      omega
    · have := Live.lt I.R hd
      omega

/-- Behind a few pure operations. -/
theorem ItT.next {W W' : World} {t : Array Value} {i : Nat} (T : ItT C Kept w l k x t i) {A' K' : Nat → Nat} {S' : St} {a' : Act} {ks : List Nat} (h0 : 0 ∈ ks) (h1 : 1 ∈ ks) (h2 : 2 ∈ ks) (R' : Rel (itC C.E W Kept ks t) A' K' S' a' W') {j : Nat} (h4 : get S'.s 4 = .i .i64 j) : ItT C Kept w l k x a'.tmps j where
  size := R'.tsz
  y := by rw [R'.act.keep 0 h0]; exact T.y
  v1 := by rw [R'.act.keep 1 h1]; exact T.v1
  v2 := by rw [R'.act.keep 2 h2]; exact T.v2
  i := by have := R'.slot 4; rw [h4] at this; exact vrep_int this

theorem ItT.put {t : Array Value} {i : Nat} (T : ItT C Kept w l k x t i) {d : Nat} (v : Value) (hd : d ≠ 0 ∧ d ≠ 1 ∧ d ≠ 2 ∧ d ≠ 4) : ItT C Kept w l k x (t.setIfInBounds d v) i := by
  have : ∀ j, d ≠ j → (t.setIfInBounds d v).getD j undef = t.getD j undef := fun j hj => by simp [Array.getD_eq_getD_getElem?, Array.getElem?_setIfInBounds, hj]
  exact ⟨by simpa using T.size, by rw [this 0 hd.1]; exact T.y, by rw [this 1 hd.2.1]; exact T.v1, by rw [this 2 hd.2.2.1]; exact T.v2, by rw [this 4 hd.2.2.2]; exact T.i⟩

theorem cOper_keep {P : Program} {T : TypeId} {ks ks' : List Nat} {ops : Array Oper} {o : Oper} {a : AOper} (h : cOper (itI P T ks) ops o = some a) (hd : ∀ d, a.dst = some d → d ∉ ks') : cOper (itI P T ks') ops o = some a := by
  unfold cOper at h ⊢
  split at h <;> first | (cases h; done) | skip
  rename_i op g h1 h2
  simp only [h1, h2]
  cases hb : dstOk 3 31 ks o op <;> rw [hb] at h <;> first | (cases h; done) | skip
  simp only [cond_true, Option.some.injEq] at h
  subst h
  have : dstOk 3 31 ks' o op = true := by
    unfold dstOk at hb ⊢
    cases ho : o.dst with
    | none => rfl
    | some d =>
      rw [ho] at hb
      simp only [Bool.and_eq_true] at hb ⊢
      refine ⟨⟨⟨hb.1.1.1, ?_⟩, hb.1.2⟩, hb.2⟩
      have := hd d ho
      cases hm : memb ks' d
      · rfl
      · exact absurd (memb_iff.1 hm) this
  rw [this]; rfl


/-- The record, behind a loop that went so. -/
def recE (rec : LoopState → Option Code → Loop) : Ex → Loop
  | .normal => rec .ready none
  | .ret => rec .done (some .ret)
  | .exit id => rec .done (some (.exit id))

theorem yield_run {P : Program} {o : Oper} {c : Call} {f : Operand} {a : Act} {l : Nat} {w : World} {x : Operand} (ho : o.op = .call c) (hc : c.callee = .value f) (ha : c.args.toList = [x]) (hf : a.eval f = .func (.yield l) #[] #[]) {q : Result Next} (hr : (Instr.yield l #[a.eval x]).run P w = q) :
    (execOp a.eval o).run P w = q := by
  have e : c.args = #[x] := by rw [← Array.toArray_toList (xs := c.args), ha]
  rw [← hr]
  simp [execOp, ho, resolve, hc, hf, Deferred.ofValue, invoke, e, callFunc]

variable {sents : List Nat}

/-- That code's loop. -/
theorem it_loop (hE : EnvOk C.E sents) (hC : CallSound C.E call) {fn0 : Nat}
    (hrec : rec = fun st pe => { state := st, pending := pe, fn := fn0, tmps := am.tmps, params := #[p], assign := asg, body := body, defers := D })
    (hA : Sound C ks asg evA) (hB : Sound C ks body evB) (hp : p < C.nt) (hpk : p ∉ ks) (hk1 : 1 ≤ k) (hk : k ≤ 2305843009213693952) (hm : m ≤ 2305843009213693952) (hx : x = .sl cs m ∨ x = .z ∧ m = 0)
    {i1 i2 i3 i4 : Nat} {r1 r2 r3 r4 : Array Oper} {b1 b2 b3 : Bool} {a1 a2 a3 a4 : List AOper}
    (e1 : a1 = [⟨some 6, .move (.tmp 4), none⟩, ⟨some 7, .load none (.tmp 1), none⟩, ⟨some 8, .len false (.tmp 7), none⟩, ⟨some 9, .bin .no .lss (.tmp 6) (.tmp 8), none⟩])
    (e2 : a2 = [⟨some 10, .move (.tmp 4), none⟩, ⟨some 11, .load none (.tmp 2), none⟩, ⟨some 12, .bin .no .add (.tmp 10) (.tmp 11), none⟩, ⟨some 4, .move (.tmp 12), none⟩])
    (e3 : a3 = [⟨some 13, .load none (.tmp 2), none⟩, ⟨some 14, .load none (.tmp 1), none⟩, ⟨some 15, .move (.tmp 4), none⟩, ⟨some 16, .slc 1 (.tmp 14) (some (.tmp 15)) none none, none⟩, ⟨some 17, .len false (.tmp 16), none⟩, ⟨some 18, .mn [.tmp 13, .tmp 17], none⟩, ⟨some 5, .move (.tmp 18), none⟩])
    (e4 : a4 = [⟨some 19, .move (.tmp 0), none⟩, ⟨some 20, .load none (.tmp 1), none⟩, ⟨some 21, .move (.tmp 4), none⟩, ⟨some 22, .move (.tmp 4), none⟩, ⟨some 23, .move (.tmp 5), none⟩, ⟨some 24, .bin .no .add (.tmp 22) (.tmp 23), none⟩, ⟨some 25, .move (.tmp 4), none⟩, ⟨some 26, .move (.tmp 5), none⟩, ⟨some 27, .bin .no .add (.tmp 25) (.tmp 26), none⟩, ⟨some 28, .slc 1 (.tmp 20) (some (.tmp 21)) (some (.tmp 24)) (some (.tmp 27)), none⟩, ⟨some 29, .call (.tmp 19) [.tmp 28], none⟩, ⟨some 30, .un .not (.tmp 29), none⟩])
    (c1 : cOpers (itI C.E.P C.E.T [0, 1, 2]) r1 r1.toList = some a1) (c2 : cOpers (itI C.E.P C.E.T [0, 1, 2]) r2 r2.toList = some a2) (c3 : cOpers (itI C.E.P C.E.T [0, 1, 2]) r3 r3.toList = some a3) (c4 : cOpers (itI C.E.P C.E.T [0, 1, 2]) r4 r4.toList = some a4)
    (d1 : (!b1 || drawOk r1 a1) = true) (d2 : (!b2 || drawOk r2 a2) = true) (d3 : (!b3 || drawOk r3 a3) = true) {ex : Ex} {Sf : St} {Qb : Exit → Act → World → Prop}
    (hQ : ∀ A K a W e, (e = .normal ∨ e = .ret) → a.defers = [] → Inv C A K Sf am Kept w l (recE rec ex) W → Qb e a W) :
    ∀ (fuel i : Nat) {A K : Nat → Nat} {S : St} {W : World} {t : Array Value}, m - i ≤ fuel → rounds evA evB p ks kr (chunks k fuel (m - i) (cs.drop i)) S = some (ex, Sf) → Inv C A K S am Kept w l (rec .ready none) W → ItT C Kept w l k x t i →
      Code.roundsIn (Fr none) fm C.E.P (.seq (.seq (.seq (.region i1 r1 b1) (.cond (.tmp 9) .skip (.exit 0))) (.block 1 (.seq (.region i3 r3 b3) (.seq (.region i4 r4 false) (.cond (.tmp 30) .ret .skip))))) (.region i2 r2 b2)) (Exit.inBlock 0 Qb) (fuel + 1) ⟨t, []⟩ W := by
  have hE0 := hE.none
  have same : ∀ (W : World) (t : Array Value) (ks : List Nat), Same (itI C.E.P C.E.T ks) (itC C.E W Kept ks t) := fun W t ks => ⟨rfl, rfl, rfl, rfl, rfl, fun h => (by cases h), by show 31 ≤ 1000000; decide⟩
  have hbx : bytesX x = true := by rcases hx with rfl | ⟨rfl, _⟩ <;> rfl
  have hlx : lenX x = m := by rcases hx with rfl | ⟨rfl, rfl⟩ <;> rfl
  intro fuel
  induction fuel with
  | zero =>
    intro i A K S W t hf hr I T
    rw [roundsIn_succ]
    have R0 := T.rel I [0, 1, 2] (ex := []) (fun p hp => by cases hp)
    refine wpIn_seq (wpIn_seq (wpIn_seq (region_sound (same W t _) hE0 hC c1 d1 R0 (by rw [e1]; exact steps1 i k x hbx) fun A' K' a' W' R' => ?_)))
    have hv := R'.eval (.tmp 9)
    have hlt : ¬ i < lenX x := by rw [hlx]; omega
    have hev : a'.eval (.tmp 9) = .bool false := by
      have : evalO [(9, AV.b (decide (i < lenX x))), (8, .i .i64 (lenX x)), (7, x), (6, .i .i64 i), (4, .i .i64 i), (2, .el [.i .i64 k] 0), (1, .el [x] 0)] (.tmp 9) = .b (decide (i < lenX x)) := rfl
      rw [this, decide_eq_false hlt] at hv
      exact vrep_bool hv
    refine wpIn_cond hev (wpIn_exit ?_)
    have h0 : m - i = 0 := by omega
    simp only [h0, chunks, rounds, Option.some.injEq, Prod.mk.injEq] at hr
    obtain ⟨rfl, rfl⟩ := hr
    show Exit.inBlock 0 Qb (.exit 0) a' W'
    simp only [Exit.inBlock, if_true]
    exact hQ A K a' W' .normal (.inl rfl) (R'.act.none rfl) (I.grew (it_grew R'))
  | succ fuel ih =>
    intro i A K S W t hf hr I T
    rw [roundsIn_succ]
    have R0 := T.rel I [0, 1, 2] (ex := []) (fun p hp => by cases hp)
    refine wpIn_seq (wpIn_seq (wpIn_seq (region_sound (same W t _) hE0 hC c1 d1 R0 (by rw [e1]; exact steps1 i k x hbx) fun A' K' a' W' R' => ?_)))
    have hv := R'.eval (.tmp 9)
    have hev : a'.eval (.tmp 9) = .bool (decide (i < lenX x)) := vrep_bool hv
    refine wpIn_cond hev ?_
    by_cases hlt : i < lenX x
    · rw [decide_eq_true hlt]
      rw [hlx] at hlt
      have hxs : x = .sl cs m := by rcases hx with rfl | ⟨rfl, rfl⟩
                                    · rfl
                                    · omega
      refine wpIn_skip ?_
      show (Code.block 1 _).wpIn _ _ _ _ _ _
      have I1 := I.grew (it_grew R')
      have T1 : ItT C Kept w l k x a'.tmps i := T.next (by simp) (by simp) (by simp) R' rfl
      have d0 : a'.defers = [] := R'.act.none rfl
      obtain ⟨t1, ad⟩ := a'
      simp only at d0 T1
      subst d0
      clear R' hv hev R0
      -- how many
      have R1 := T1.rel I1 [0, 1, 2] (ex := []) (fun p hp => by cases hp)
      refine wpIn_block (wpIn_seq (region_sound (same W' t1 _) hE0 hC c3 d3 R1 (by rw [e3, hxs]; exact steps3 i k m cs (Nat.le_of_lt hlt)) fun A3 K3 a3' W3 R3 => ?_))
      have I3 := I1.grew (it_grew R3)
      have T3 : ItT C Kept w l k x a3'.tmps i := T1.next (by simp) (by simp) (by simp) R3 rfl
      have t5 : a3'.tmps.getD 5 undef = .int .i64 ((min k (m - i) : Nat) : Int) := vrep_int (R3.slot 5)
      have d3' : a3'.defers = [] := R3.act.none rfl
      obtain ⟨t3, ad⟩ := a3'
      simp only at d3' T3 t5
      subst d3'
      clear R3 R1
      generalize he : min k (m - i) = e at t5
      have hei : i + e ≤ m := by omega
      refine wpIn_seq ?_
      show (Code.region i4 r4 false).wpIn _ _ _ _ _ _
      refine wpIn_region ?_
      obtain ⟨g1, g2⟩ := cOpers_get c4
      have hsz : r4.size = 12 := by rw [e4] at g1; simpa using g1
      have hal : a4.length = 12 := by rw [e4]; rfl
      have hls : List.range r4.size = 0 :: (List.range' 1 9 ++ [10, 11]) := by rw [hsz]; decide
      rw [hls, wpOpsIn_cons]
      have get4 : ∀ j (hj : j < 12), ∃ (o : Oper), r4[j]? = some o ∧ cOper (itI C.E.P C.E.T [0, 1, 2]) r4 o = some (a4[j]'(by omega)) := fun j hj => ⟨r4[j]'(by omega), by simp [hsz, hj], by have := g2 j (by simp [hsz, hj]) (by omega); simpa using this⟩
      -- yield
      obtain ⟨o0, ho0, hc0⟩ := get4 0 (by decide)
      have hc0 : cOper (itI C.E.P C.E.T [0, 1, 2]) r4 o0 = some ⟨some 19, .move (.tmp 0), none⟩ := by rw [hc0]; subst e4; rfl
      have op_inv : ∀ {o : Oper} {a : AOper}, cOper (itI C.E.P C.E.T [0, 1, 2]) r4 o = some a → o.dst = a.dst ∧ cOp C.E.P C.E.T [] [] o = some a.op ∧ cGuard r4 o = some a.guard := by
        intro o a h
        unfold cOper at h
        split at h <;> first | (cases h; done) | skip
        rename_i op g h1 h2
        cases hb : dstOk 3 31 [0, 1, 2] o op
        · simp only [hb, cond_false] at h; cases h
        · simp only [hb, cond_true, Option.some.injEq] at h
          subst h; exact ⟨rfl, h1, h2⟩
      have guard_inv : ∀ {o : Oper}, cGuard r4 o = some none → o.guard = none := by
        intro o h
        unfold cGuard at h
        split at h
        · assumption
        · split at h <;> first | (cases h; done) | skip
          split at h <;> cases h
      obtain ⟨q1, q2, q3⟩ := op_inv hc0
      have hmv := move_inv q2
      have hg0 := guard_inv q3
      unfold wpOpIn
      simp only [ho0]
      rw [if_pos (by simp [Region.wanted, hg0])]
      refine oper_fr none (cOp_defer q2) ?_
      have hrun0 : (execOp (⟨t3, []⟩ : Act).eval o0).run C.E.P W3 = .ok (.value (t3.getD 0 undef)) W3 := by
        rcases hmv with ho | ho <;> (simp only [execOp, ho]; rfl)
      unfold Oper.wp
      rw [hrun0, Oper.upon_value, q1, T3.y]
      show wpOpsIn _ _ _ _ _ _ ⟨t3.setIfInBounds 19 (.func (.yield l) #[] #[]), []⟩ W3
      have T4 := T3.put (.func (.yield l) #[] #[]) (d := 19) (by decide)
      have t19 : (t3.setIfInBounds 19 (.func (.yield l) #[] #[])).getD 19 undef = .func (.yield l) #[] #[] := by
        simp [Array.getD_eq_getD_getElem?, Array.getElem?_setIfInBounds, T3.size]
      have t5' : (t3.setIfInBounds 19 (.func (.yield l) #[] #[])).getD 5 undef = .int .i64 (e : Int) := by
        rw [← t5]; simp [Array.getD_eq_getD_getElem?, Array.getElem?_setIfInBounds]
      generalize t3.setIfInBounds 19 (.func (.yield l) #[] #[]) = t4 at T4 t19 t5'
      have R4 := T4.rel I3 [0, 1, 2, 19] (ex := [(5, .i .i64 e)]) (fun p hp => by
        have : p = (5, .i .i64 e) := by simpa using hp
        subst this; simp only [t5']; exact .one (.flat (.i _ _)))
      refine seg_sound (ro := none) (fm := fm) (same W3 t4 [0, 1, 2, 19]) hE0 hC (al := a4.take 10) (k0 := 1) ?hal (rest := [10, 11]) (Sf := ⟨[(28, .sl ((cs.drop i).take e) e), (27, .i .i64 ((i + e : Nat) : Int)), (26, .i .i64 e), (25, .i .i64 i), (24, .i .i64 ((i + e : Nat) : Int)), (23, .i .i64 e), (22, .i .i64 i), (21, .i .i64 i), (20, .sl cs m), (5, .i .i64 e), (4, .i .i64 i), (2, .el [.i .i64 k] 0), (1, .el [.sl cs m] 0)], []⟩)
        (fun A5 K5 a5 W5 R5 => ?_) 9 1 (by omega) (by omega) (by simp [hal]) R4 (by subst e4; rw [hxs]; exact steps4 i e m k cs hei hm)
      case hal =>
        intro j h0 h1 h2
        have hj : j < 12 := by omega
        have hj10 : j < 10 := by simp [hal] at h2; omega
        have := g2 j (by simp [hsz, hj]) (by omega)
        rw [List.getElem_take]
        refine cOper_keep (ks := [0, 1, 2]) (by simpa using this) fun d hd => ?_
        have : ∀ j, 1 ≤ j → j < 10 → ∀ (h : j < a4.length), ∀ d, a4[j].dst = some d → d ∉ [0, 1, 2, 19] := by
          subst e4
          intro j h1 h2 h d hd
          have hj : j = 1 ∨ j = 2 ∨ j = 3 ∨ j = 4 ∨ j = 5 ∨ j = 6 ∨ j = 7 ∨ j = 8 ∨ j = 9 := by omega
          rcases hj with rfl | rfl | rfl | rfl | rfl | rfl | rfl | rfl | rfl <;> (cases hd; decide)
        exact this j h0 hj10 (by omega) d hd
      have I5 := I3.grew (it_grew R5)
      have T5 : ItT C Kept w l k x a5.tmps i := T4.next (by simp) (by simp) (by simp) R5 rfl
      have y5 : a5.tmps.getD 19 undef = .func (.yield l) #[] #[] := by rw [R5.act.keep 19 (by simp)]; exact t19
      have d5 : a5.defers = [] := R5.act.none rfl
      have v5 : VRep C.E C.np W5 (Still C A K S.l W5) A K (.sl ((cs.drop i).take e) e) (a5.tmps.getD 28 undef) :=
        .one (.flat ((vrep_flat (R5.slot 28) rfl).mono (fun b hb => ItT.still I3 R5 hb) (fun _ _ => rfl)))
      obtain ⟨t5a, ad⟩ := a5
      simp only at d5 T5 y5 v5
      subst d5
      clear R5 R4
      -- the round
      rw [wpOpsIn_cons]
      obtain ⟨o10, ho10, hc10⟩ := get4 10 (by decide)
      have hc10 : cOper (itI C.E.P C.E.T [0, 1, 2]) r4 o10 = some ⟨some 29, .call (.tmp 19) [.tmp 28], none⟩ := by rw [hc10]; subst e4; rfl
      obtain ⟨u1, u2, u3⟩ := op_inv hc10
      obtain ⟨c, w1, w2, w3⟩ := call_inv u2
      unfold wpOpIn
      simp only [ho10]
      rw [if_pos (by simp [Region.wanted, guard_inv u3])]
      refine ⟨fun _ _ => trivial, ?_⟩
      rw [Oper.semAt_eq _ _ _ (cOp_defer u2), yield_run (a := ⟨t5a, []⟩) w1 w2 w3 y5 (run_yield I5.loop (by rw [hrec]; rfl)), Oper.uponIn_round]
      refine ⟨fun h => by simp [Fence.wide] at h, ?_⟩
      have hch : chunks k (fuel + 1) (m - i) (cs.drop i) = .sl ((cs.drop i).take e) e :: chunks k fuel (m - (i + k)) (cs.drop (i + k)) := by
        have hb : Nat.beq (m - i) 0 = false := by rw [← Bool.not_eq_true, Nat.beq_eq]; omega
        have z : ∀ (f : Nat) (l : List AV), chunks k f 0 l = [] := fun f l => by cases f <;> rfl
        simp only [chunks, hb, cond_false, he]
        by_cases hki : k ≤ m - i
        · have : e = k := by omega
          subst this
          rw [List.drop_drop, show m - i - e = m - (i + e) by omega]
        · rw [show m - i - e = 0 by omega, show m - (i + k) = 0 by omega, z, z]
      rw [hch] at hr
      simp only [rounds] at hr
      cases hev1 : evA { S with s := put S.s p (.sl ((cs.drop i).take e) e) } with
      | none => simp [hev1] at hr
      | some q =>
        obtain ⟨ee, S1⟩ := q
        rw [hev1] at hr
        cases ee with
        | ret => simp at hr
        | exit id => simp at hr
        | normal =>
          simp only at hr
          cases hev2 : evB S1 with
          | none => simp [hev2] at hr
          | some q =>
            obtain ⟨e', S2⟩ := q
            rw [hev2] at hr
            have key := fun R => one_round (R := R) (fm := fm - 1) (kr := kr) (Kept := Kept) hrec hA hB hp hpk I5 v5 hev1 hev2
            have hfold : ∀ v : Value, Array.foldl (fun tmps (q : Tmp × Value) => match q with | (t, a) => tmps.setIfInBounds t a) am.tmps (#[p].zip #[v]) = am.tmps.setIfInBounds p v := fun v => by simp
            rw [hrec]
            dsimp only
            rw [hfold]
            refine key _ (fun A6 K6 W6 I6 => ?_)
            show wpOpsIn _ _ _ _ _ _ (Act.put ⟨t5a, []⟩ o10.dst _) W6
            rw [u1]
            show wpOpsIn _ _ _ _ _ _ ⟨t5a.setIfInBounds 29 (.bool (isN e')), []⟩ W6
            generalize hbb : isN e' = bb
            show wpOpsIn _ _ _ _ _ _ ⟨t5a.setIfInBounds 29 (.bool bb), []⟩ W6
            have T6 := T5.put (.bool bb) (d := 29) (by decide)
            have t29 : (t5a.setIfInBounds 29 (.bool bb)).getD 29 undef = .bool bb := by
              simp [Array.getD_eq_getD_getElem?, Array.getElem?_setIfInBounds, T5.size]
            generalize t5a.setIfInBounds 29 (.bool bb) = t6 at T6 t29
            have R6 := T6.rel I6 [0, 1, 2] (ex := [(29, .b bb)]) (fun p hp => by
              have : p = (29, .b bb) := by simpa using hp
              subst this; simp only [t29]; exact .one (.flat (.b _)))
            rw [wpOpsIn_cons]
            obtain ⟨o11, ho11, hc11⟩ := get4 11 (by decide)
            have hc11 : cOper (itI C.E.P C.E.T [0, 1, 2]) r4 o11 = some ⟨some 30, .un .not (.tmp 29), none⟩ := by rw [hc11]; subst e4; rfl
            refine (step_sound (S' := ⟨(30, .b !bb) :: (29, .b bb) :: s3 i k x, []⟩) ⟨rfl, rfl, rfl, rfl, rfl⟩ (same W6 t6 [0, 1, 2]).small hE0 hC R6 ho11 hc11 (by rfl) fun A7 K7 a7 W7 R7 => ?_).fr none
            show (Code.cond (.tmp 30) .ret .skip).wpIn _ _ _ _ _ _
            have hv7 : a7.eval (.tmp 30) = .bool !bb := vrep_bool (R7.eval (.tmp 30))
            refine wpIn_cond hv7 ?_
            have I7 := I6.grew (it_grew R7)
            have d7 : a7.defers = [] := R7.act.none rfl
            have leave : ∀ (r : Loop), bb = false → some (e', S2.clean ks kr) = some (ex, Sf) → Inv C A6 K6 (S2.clean ks kr) am Kept w l (recE rec e') W7 → (if (!bb) = true then Code.ret else Code.skip).wpIn (Fr none) fm C.E.P (Exit.inBlock 1 (Exit.then (fun a w => (Code.region i2 r2 b2).wpIn (Fr none) fm C.E.P (Exit.then (fun a w => Code.roundsIn (Fr none) fm C.E.P (.seq (.seq (.seq (.region i1 r1 b1) (.cond (.tmp 9) .skip (.exit 0))) (.block 1 (.seq (.region i3 r3 b3) (.seq (.region i4 r4 false) (.cond (.tmp 30) .ret .skip))))) (.region i2 r2 b2)) (Exit.inBlock 0 Qb) (fuel + 1) a w) (Exit.inBlock 0 Qb)) a w) (Exit.then (fun a w => Code.roundsIn (Fr none) fm C.E.P (.seq (.seq (.seq (.region i1 r1 b1) (.cond (.tmp 9) .skip (.exit 0))) (.block 1 (.seq (.region i3 r3 b3) (.seq (.region i4 r4 false) (.cond (.tmp 30) .ret .skip))))) (.region i2 r2 b2)) (Exit.inBlock 0 Qb) (fuel + 1) a w) (Exit.inBlock 0 Qb)))) a7 W7 := by
              intro r h1 h2 h3
              subst h1
              change Code.ret.wpIn _ _ _ _ _ _
              cases h2
              refine wpIn_ret ?_
              exact hQ A6 K6 a7 W7 .ret (.inr rfl) d7 h3
            cases e' with
            | ret => subst hbb; exact leave (rec .done none) rfl hr I7
            | exit id => subst hbb; exact leave (rec .done none) rfl hr I7
            | normal =>
              subst hbb
              simp only at hr
              refine wpIn_skip ?_
              show (Code.region i2 r2 b2).wpIn _ _ _ _ _ _
              have T7 : ItT C Kept w l k x a7.tmps i := T6.next (by simp) (by simp) (by simp) R7 rfl
              obtain ⟨t7, ad⟩ := a7
              simp only at d7 T7
              subst d7
              have R8 := T7.rel I7 [0, 1, 2] (ex := []) (fun p hp => by cases hp)
              refine region_sound (same W7 t7 _) hE0 hC c2 d2 R8 (by rw [e2]; exact steps2 i k x (by omega) hk) fun A8 K8 a8 W8 R9 => ?_
              have T8 : ItT C Kept w l k x a8.tmps (i + k) := T7.next (by simp) (by simp) (by simp) R9 rfl
              have d8 : a8.defers = [] := R9.act.none rfl
              obtain ⟨t8, ad⟩ := a8
              simp only at d8 T8
              subst d8
              exact ih (i + k) (by omega) hr (I7.grew (it_grew R9)) T8
    · rw [decide_eq_false hlt]
      rw [hlx] at hlt
      refine wpIn_exit ?_
      have h0 : m - i = 0 := by omega
      have hc0 : chunks k (fuel + 1) (m - i) (cs.drop i) = [] := by rw [h0]; rfl
      rw [hc0] at hr
      simp only [rounds, Option.some.injEq, Prod.mk.injEq] at hr
      obtain ⟨rfl, rfl⟩ := hr
      show Exit.inBlock 0 Qb (.exit 0) a' W'
      simp only [Exit.inBlock, if_true]
      exact hQ A K a' W' .normal (.inl rfl) (R'.act.none rfl) (I.grew (it_grew R'))


end
end Zab

namespace Zab
open Go
set_option linter.unusedSimpArgs false
set_option linter.unusedVariables false

section
variable {C : Ctx} {am : Act} {Kept : Nat → Prop} {w : World} {l fm p D : Nat} {ks kr : List Nat} {asg body : Code} {evA evB : St → Option (Ex × St)} {rec : LoopState → Option Code → Loop} {call : CallF} {k m : Nat} {cs : List AV} {x : AV} {sents : List Nat}

theorem pad_get (xs : Array Value) (n j : Nat) (h : j < xs.size) : (xs ++ Array.replicate n undef).getD j undef = xs[j] := by
  simp [Array.getD_eq_getD_getElem?, Array.getElem?_append, h]

/-- A loop over bytes, so many at once. -/
theorem range_sound {A K : Nat → Nat} {S : St} {a : Act} (R : Rel C A K S a w) (hE : EnvOk C.E sents) (hC : CallSound C.E call) {f : Nat} (hf : ChunkFn C.E.P C.E.T f) (hA : Sound C ks asg evA) (hB : Sound C ks body evB) (hp : p < C.nt) (hpk : p ∉ ks) (hfix : C.fix = false)
    {g : Operand} {its : List AV} (hits : rngItems f (evalO S.s g) = some its) {ex : Ex} {Sf : St} (hr : rounds evA evB p ks kr its (S.clean ks kr) = some (ex, Sf)) {Q : Exit → Act → World → Prop} (hQ : ∀ A' K' a' w', Rel C A' K' Sf a' w' → Q (exC ex) a' w') :
    (Code.rangeFunc g #[p] asg body).wpIn (Fr none) fm C.E.P Q a w := by
  -- the bytes
  have hX : ∃ (k : Nat) (x : AV) (m : Nat) (cs : List AV), evalO S.s g = .fn f [.el [x] 0, .el [.i .i64 k] 0] ∧ 1 ≤ k ∧ k ≤ 2305843009213693952 ∧ m ≤ 2305843009213693952 ∧ (x = .sl cs m ∨ x = .z ∧ m = 0) ∧ its = chunks k m m cs := by
    unfold rngItems at hits
    split at hits <;> first | (cases hits; done) | skip
    rename_i f' x k0 hg
    simp only [Bool.cond_eq_ite] at hits
    split at hits <;> first | (cases hits; done) | skip
    rename_i hb
    simp only [Bool.and_eq_true, decide_eq_true_eq, Nat.beq_eq] at hb
    obtain ⟨rfl, h1, h2⟩ := hb
    have hk : ((k0.toNat : Nat) : Int) = k0 := Int.toNat_of_nonneg (by omega)
    unfold itemsOf at hits
    split at hits <;> first | (cases hits; done) | skip
    · rename_i cs m
      simp only [Bool.cond_eq_ite] at hits
      split at hits <;> first | (cases hits; done) | skip
      rename_i hm
      simp only [decide_eq_true_eq] at hm
      cases hits
      exact ⟨k0.toNat, _, m, cs, by rw [hg, hk], by omega, by omega, hm, .inl rfl, rfl⟩
    · cases hits
      exact ⟨k0.toNat, _, 0, [], by rw [hg, hk], by omega, by omega, by omega, .inr ⟨rfl, rfl⟩, rfl⟩
  obtain ⟨k, x, m, cs, hg, hk1, hk, hm, hx, rfl⟩ := hX
  have hv := R.eval g
  rw [hg] at hv
  obtain ⟨vs, hvg, hlen, hvs⟩ := vrep_fn hv
  match vs, hlen with
  | [v1, v2], _ =>
  have hv1 : V1 C.E C.np w (Still C A K S.l w) A K (.el [x] 0) v1 := hvs 0 (by simp) (by simp)
  have hv2 : V1 C.E C.np w (Still C A K S.l w) A K (.el [.i .i64 k] 0) v2 := hvs 1 (by simp) (by simp)
  obtain ⟨fn0, i0, i1, i2, i3, i4, r0, r1, r2, r3, r4, b0, b1, b2, b3, hfn, hname, hnp, hnt, hres, hbody, c0, c1, c2, c3, c4, d0, d1, d2, d3⟩ := hf.ex
  refine wpIn_rangeFunc fun fn hfn' => ?_
  obtain ⟨rec, hrec⟩ : ∃ rec : LoopState → Option Code → Loop, rec = fun st pe => { state := st, pending := pe, fn := fn, tmps := a.tmps, params := #[p], assign := asg, body := body, defers := w.heap.size } := ⟨_, rfl⟩
  obtain ⟨W1, hW1⟩ : ∃ W1, (w.alloc (.deferred (some []))).alloc (.loop (rec .ready none)) = W1 := ⟨_, rfl⟩
  have G : Grew w W1 := by rw [← hW1]; exact (Grew.alloc _ _).trans (Grew.alloc _ _)
  have hL1 : W1.heap[w.heap.size + 1]? = some (.loop (rec .ready none)) := by
    rw [← hW1]; have := World.alloc_heap_new (w.alloc (.deferred (some []))) (.loop (rec .ready none)); rwa [World.size_alloc] at this
  have hK1 : W1.heap[w.heap.size]? = some (.deferred (some [])) := by
    rw [← hW1]; exact ((Grew.alloc (w.alloc (.deferred (some []))) _).block _ (by rw [World.size_alloc]; omega)).trans (World.alloc_heap_new w _)
  obtain ⟨am, ham⟩ : ∃ am : Act, am = { a with defers := [{ target := .collected w.heap.size, args := #[] }] ++ a.defers } := ⟨_, rfl⟩
  have hat : am.tmps = a.tmps := by rw [ham]
  have Rm : Rel C A K (S.clean ks kr) am W1 := by
    have R1 := (R.grew G).clean ks kr
    refine { R1 with slot := fun i => by rw [hat]; exact R1.slot i, act := ?_ }
    rw [ham]
    refine ⟨fun d hd => ?_, ?_, R1.act.tsz, R1.act.keep, fun h => by rw [hfix] at h; cases h⟩
    · rcases List.mem_cons.1 hd with rfl | hd
      · exact ⟨_, rfl, R.size, hK1⟩
      · exact R1.act.mark d hd
    · refine List.nodup_cons.2 ⟨fun hd => ?_, R.act.nodup⟩
      obtain ⟨D, e, _, h3⟩ := R.act.mark _ hd
      have := (Array.getElem?_eq_some_iff.1 h3).1
      simp only [Deferred.mk.injEq, Target.collected.injEq, and_true] at e
      omega
  have hI : Inv C A K (S.clean ks kr) am (Still C A K S.l w) w (w.heap.size + 1) (rec .ready none) W1 :=
    ⟨Rm, hL1, fun b hb => ⟨(hb.less fun d => look_clean kr S.l d).grew G.size, G.block b hb.1⟩, by have := R.size; omega, fun b hb e => by have := hb.1; omega⟩
  refine ⟨w.heap.size + 1, [{ target := .collected w.heap.size, args := #[] }], W1, { target := .fn (.func f) #[v1, v2], args := #[.func (.yield (w.heap.size + 1)) #[] #[]] }, W1, f, #[.func (.yield (w.heap.size + 1)) #[] #[]] ++ #[v1, v2], W1, ?_, ?_, fun _ _ => trivial, ?_, fun h => by simp [Fence.wide] at h, ?_⟩
  · rw [← hW1, hrec]; exact run_enterLoop_outer _ _ _ _ _
  · simp only [resolve, hvg]
    simp [go_sem]
  · simp [invoke, run_enter hfn hname hbody]
  · rw [← ham]
    refine callsIn_of_wp hfn hbody trivial ?_
    rw [hnt]
    have hargs : #[Value.func (.yield (w.heap.size + 1)) #[] #[]] ++ #[v1, v2] = #[Value.func (.yield (w.heap.size + 1)) #[] #[], v1, v2] := rfl
    rw [hargs]
    obtain ⟨t, ht⟩ : ∃ t : Array Value, t = #[Value.func (.yield (w.heap.size + 1)) #[] #[], v1, v2] ++ Array.replicate (31 - (#[Value.func (.yield (w.heap.size + 1)) #[] #[], v1, v2] : Array Value).size) undef := ⟨_, rfl⟩
    have e0 : t.size = 31 := by rw [ht]; simp
    have e1 : t.getD 0 undef = .func (.yield (w.heap.size + 1)) #[] #[] := by rw [ht, pad_get _ _ 0 (by simp)]; simp
    have e2 : t.getD 1 undef = v1 := by rw [ht, pad_get _ _ 1 (by simp)]; simp
    have e3 : t.getD 2 undef = v2 := by rw [ht, pad_get _ _ 2 (by simp)]; simp
    rw [← ht]
    clear ht
    have k1 : V1 C.E 3 w (Still C A K S.l w) (fun _ => 0) (fun _ => 0) (.el [x] 0) (t.getD 1 undef) := by rw [e2]; exact el_any hv1 (fun _ h => h) (fun _ _ => rfl)
    have k2 : V1 C.E 3 w (Still C A K S.l w) (fun _ => 0) (fun _ => 0) (.el [.i .i64 k] 0) (t.getD 2 undef) := by rw [e3]; exact el_any hv2 (fun _ h => h) (fun _ _ => rfl)
    have hN : ∀ b, Still C A K S.l w b → b < W1.heap.size ∧ Still C A K S.l w b := fun b hb => ⟨Nat.lt_of_lt_of_le hb.1 G.size, hb⟩
    have hw : ∀ b, Still C A K S.l w b → W1.heap[b]? = w.heap[b]? := fun b hb => G.block b hb.1
    have R0 : Rel (itC C.E W1 (Still C A K S.l w) [0, 1, 2] t) (fun _ => 0) (fun _ => 0) ⟨[(2, .el [.i .i64 k] 0), (1, .el [x] 0)], []⟩ ⟨t, []⟩ W1 :=
      it_rel Rm.glob e0 [0, 1, 2] (vreps_of fun q hq => by
        simp only [List.mem_cons, List.not_mem_nil, or_false] at hq
        rcases hq with rfl | rfl
        · exact .one (el_any k2 hN hw)
        · exact .one (el_any k1 hN hw))
    refine wpIn_seq (region_sound (C := itC C.E W1 (Still C A K S.l w) [0, 1, 2] t) ⟨rfl, rfl, rfl, rfl, rfl, fun h => (by cases h), by show 31 ≤ 1000000; decide⟩ hE.none hC c0 d0 R0 (Sf := ⟨s3 0 k x, []⟩) rfl fun A' K' a' W' R' => ?_)
    have T : ItT C (Still C A K S.l w) w (w.heap.size + 1) k x a'.tmps 0 :=
      ⟨R'.tsz, by rw [R'.act.keep 0 (by simp)]; exact e1, by rw [R'.act.keep 1 (by simp)]; exact k1, by rw [R'.act.keep 2 (by simp)]; exact k2, vrep_int (R'.slot 4)⟩
    have hd : a'.defers = [] := R'.act.none rfl
    have hI' := hI.grew (it_grew R')
    obtain ⟨t', ad⟩ := a'
    simp only at hd T
    subst hd
    refine wpIn_block (wpIn_loop_rounds (m + 1) (it_loop hE hC (fn0 := fn) (D := w.heap.size) (by rw [hrec, hat]) hA hB hp hpk hk1 hk hm hx rfl rfl rfl rfl c1 c2 c3 c4 d1 d2 d3 (fun A2 K2 a2 W2 e he hd2 I2 => ?_) m 0 (by omega) (by simpa using hr) hI' T))
    have hresults : (results fn0 a2.tmps).run C.E.P W2 = .ok (.tuple #[]) W2 := by simp [results, hres]
    have hpost : a2.defers = [] ∧ ∃ v, (results fn0 a2.tmps).run C.E.P W2 = .ok v W2 ∧ rangePost (Fr none) fm C.E.P (w.heap.size + 1) Q am (.returned v) W2 := by
      refine ⟨hd2, _, hresults, ?_⟩
      cases ex with
      | normal =>
        exact ⟨none, _, by have := run_endLoop (P := C.E.P) I2.loop (by simp [recE, hrec]); simpa [recE, hrec] using this, hQ _ _ _ _ (I2.turn _).R⟩
      | ret =>
        exact ⟨some .ret, _, by have := run_endLoop (P := C.E.P) I2.loop (by simp [recE, hrec]); simpa [recE, hrec] using this, wpIn_ret (hQ _ _ _ _ (I2.turn _).R)⟩
      | exit id =>
        exact ⟨some (.exit id), _, by have := run_endLoop (P := C.E.P) I2.loop (by simp [recE, hrec]); simpa [recE, hrec] using this, wpIn_exit (hQ _ _ _ _ (I2.turn _).R)⟩
    rcases he with rfl | rfl <;> exact hpost

end
end Zab

namespace Zab
open Go
set_option linter.unusedSimpArgs false
set_option linter.unusedVariables false

section

theorem iter_sound {C : Ctx} {ro : Option Nat} {fm : Nat} {c : Code} {f : St → Option (Ex × St)} (hf : ∀ {ex : Ex} {S1 S : St} {A K : Nat → Nat} {a : Act} {w : World}, Rel C A K S a w → f S = some (ex, S1) → ∀ Q, (∀ A' K' a' w', Rel C A' K' S1 a' w' → Q (exC ex) a' w') → c.wpIn (Fr ro) fm C.E.P Q a w)
    {Q : Exit → Act → World → Prop} {ex : Ex} {Sf : St} (hQ : ∀ A' K' a' w', Rel C A' K' Sf a' w' → Q (exC ex) a' w') : ∀ (n : Nat) {S : St} {A K : Nat → Nat} {a : Act} {w : World}, Rel C A K S a w → iter f n S = some (ex, Sf) → Code.roundsIn (Fr ro) fm C.E.P c Q n a w
  | 0, S, A, K, a, w, R, h => by simp [iter] at h
  | n + 1, S, A, K, a, w, R, h => by
    simp only [iter] at h
    rw [roundsIn_succ]
    cases hs : f S with
    | none => simp [hs] at h
    | some p =>
      obtain ⟨e1, S1⟩ := p
      refine hf R hs _ fun A' K' a' w' R' => ?_
      rw [hs] at h
      cases e1 with
      | normal => exact iter_sound hf hQ n R' h
      | ret => cases h; exact hQ _ _ _ _ R'
      | exit id => cases h; exact hQ _ _ _ _ R'

theorem code_sound {E : Env} {call : CallF} (hC : CallSound E call) (n : Nat) : ∀ (c : Code) (h : Heads) (ac : AC) (h' : Heads) (C : Ctx), C.E = E → ∀ (I : Info), Same I C → EnvOk C.E I.sents → cCode I c h = some (ac, h') →
    ∀ (ro : Option Nat), (I.inner = false → ro = none) → ∀ (fm : Nat) (ex : Ex) (Sf S : St) (A K : Nat → Nat) (a : Act) (w : World), Rel C A K S a w → evC call n ac S = some (ex, Sf) → ∀ Q, (∀ A' K' a' w', Rel C A' K' Sf a' w' → Q (exC ex) a' w') → c.wpIn (Fr ro) fm C.E.P Q a w
  | .skip, h, ac, h', C, hCE, I, hI, hE, hc, ro, hro, fm => by
    simp only [cCode, Option.some.injEq, Prod.mk.injEq] at hc
    obtain ⟨rfl, _⟩ := hc
    intro ex Sf S A K a w R he Q hQ
    simp only [evC, Option.some.injEq, Prod.mk.injEq] at he
    obtain ⟨rfl, rfl⟩ := he
    exact wpIn_skip (hQ _ _ _ _ R)
  | .ret, h, ac, h', C, hCE, I, hI, hE, hc, ro, hro, fm => by
    simp only [cCode, Option.some.injEq, Prod.mk.injEq] at hc
    obtain ⟨rfl, _⟩ := hc
    intro ex Sf S A K a w R he Q hQ
    simp only [evC, Option.some.injEq, Prod.mk.injEq] at he
    obtain ⟨rfl, rfl⟩ := he
    exact wpIn_ret (hQ _ _ _ _ R)
  | .exit id, h, ac, h', C, hCE, I, hI, hE, hc, ro, hro, fm => by
    simp only [cCode, Option.some.injEq, Prod.mk.injEq] at hc
    obtain ⟨rfl, _⟩ := hc
    intro ex Sf S A K a w R he Q hQ
    simp only [evC, Option.some.injEq, Prod.mk.injEq] at he
    obtain ⟨rfl, rfl⟩ := he
    exact wpIn_exit (hQ _ _ _ _ R)
  | .region id ops draw, h, ac, h', C, hCE, I, hI, hE, hc, ro, hro, fm => by
    simp only [cCode] at hc
    split at hc <;> first | (cases hc; done) | skip
    rename_i l hl
    simp only [Bool.cond_eq_ite] at hc
    split at hc <;> first | (cases hc; done) | skip
    rename_i hd
    intro ex Sf S A K a w R he Q hQ
    have reg : ∀ {S : St}, Rel C A K S a w → evC call n (.reg l) S = some (ex, Sf) → (Code.region id ops draw).wpIn (Fr ro) fm C.E.P Q a w := by
      intro S R he
      simp only [evC] at he
      split at he <;> first | (cases he; done) | skip
      rename_i S1 hs
      cases he
      exact region_sound hI hE (hCE ▸ hC) hl hd R hs hQ
    split at hc
    · cases hc
      simp only [evC] at he
      split at he <;> first | (cases he; done) | skip
      rename_i S1 hs
      exact reg ((Rel.freezes _ R hs).clean _ _) he
    · cases hc
      exact reg R he
  | .seq x y, h, ac, h', C, hCE, I, hI, hE, hc, ro, hro, fm => by
    simp only [cCode] at hc
    split at hc <;> first | (cases hc; done) | skip
    rename_i ax h1 hx
    split at hc <;> first | (cases hc; done) | skip
    rename_i ay h2 hy
    cases hc
    intro ex Sf S A K a w R he Q hQ
    simp only [evC] at he
    refine wpIn_seq ?_
    cases hs : evC call n ax S with
    | none => simp [hs] at he
    | some p =>
      obtain ⟨e1, S1⟩ := p
      refine code_sound hC n x h ax h1 C hCE I hI hE hx ro hro fm _ _ _ _ _ _ _ R hs _ fun A' K' a' w' R' => ?_
      rw [hs] at he
      cases e1 with
      | normal => exact code_sound hC n y h1 ay _ C hCE I hI hE hy ro hro fm _ _ _ _ _ _ _ R' he Q hQ
      | ret => cases he; exact hQ _ _ _ _ R'
      | exit id => cases he; exact hQ _ _ _ _ R'
  | .cond c x y, h, ac, h', C, hCE, I, hI, hE, hc, ro, hro, fm => by
    simp only [cCode] at hc
    split at hc <;> first | (cases hc; done) | skip
    rename_i ax h1 hx
    split at hc <;> first | (cases hc; done) | skip
    rename_i ay h2 hy
    cases hc
    intro ex Sf S A K a w R he Q hQ
    simp only [evC] at he
    split at he <;> first | (cases he; done) | skip
    rename_i t ht
    have hv := R.eval c
    rw [ht] at hv
    refine wpIn_cond (vrep_bool hv) ?_
    cases t
    · exact code_sound hC n y h1 ay _ C hCE I hI hE hy ro hro fm _ _ _ _ _ _ _ R he Q hQ
    · exact code_sound hC n x h ax _ C hCE I hI hE hx ro hro fm _ _ _ _ _ _ _ R he Q hQ
  | .block id x, h, ac, h', C, hCE, I, hI, hE, hc, ro, hro, fm => by
    simp only [cCode] at hc
    split at hc <;> first | (cases hc; done) | skip
    rename_i ax h1 hx
    cases hc
    intro ex Sf S A K a w R he Q hQ
    simp only [evC] at he
    split at he <;> first | (cases he; done) | skip
    rename_i e1 S1 hs
    cases he
    refine wpIn_block (code_sound hC n x h ax _ C hCE I hI hE hx ro hro fm _ _ _ _ _ _ _ R hs _ fun A' K' a' w' R' => ?_)
    cases e1 with
    | normal => exact hQ _ _ _ _ R'
    | ret => exact hQ _ _ _ _ R'
    | exit j =>
      have := hQ _ _ _ _ R'
      simp only [Ex.unblock] at this
      show Exit.inBlock id Q (.exit j) a' w'
      simp only [Exit.inBlock]
      by_cases hj : j = id
      · subst hj; rw [if_pos rfl]; rw [Nat.beq_refl] at this; exact this
      · rw [if_neg hj]
        have hb : Nat.beq j id = false := by rw [← Bool.not_eq_true, Nat.beq_eq]; exact hj
        rw [hb] at this; exact this
  | .loop x, h, ac, h', C, hCE, I, hI, hE, hc, ro, hro, fm => by
    match h, hc with
    | (ks, kr) :: h, hc =>
      simp only [cCode] at hc
      split at hc <;> first | (cases hc; done) | skip
      rename_i ax h1 hx
      cases hc
      intro ex Sf S A K a w R he Q hQ
      simp only [evC] at he
      refine wpIn_loop_rounds n (iter_sound (fun {ex S1 S A K a w} R hf Q hQ => ?_) hQ n R he)
      exact code_sound hC n x h ax _ C hCE I hI hE hx ro hro fm _ _ _ _ _ _ _ (R.clean ks kr) hf Q hQ
    | [], hc => simp [cCode] at hc
  | .rangeFunc g ps asg body, h, ac, h', C, hCE, I, hI, hE, hc, ro, hro, fm => by
    unfold cCode at hc
    split at hc <;> first | (cases hc; done) | skip
    all_goals first | (rename_i heq _; cases heq; done) | skip
    all_goals first | (rename_i heq; cases heq; done) | skip
    rename_i g' ps' asg' body' ks kr f kr' h0 heq
    cases heq
    split at hc <;> first | (cases hc; done) | skip
    rename_i p hps
    simp only [Bool.cond_eq_ite] at hc
    split at hc <;> first | (cases hc; done) | skip
    rename_i hb
    simp only [Bool.and_eq_true, Bool.not_eq_true', Nat.blt_eq] at hb
    obtain ⟨hin, hchk, hpn, hpk⟩ := hb
    split at hc <;> first | (cases hc; done) | skip
    rename_i x h1 hx
    split at hc <;> first | (cases hc; done) | skip
    rename_i y h2 hy
    cases hc
    intro ex Sf S A K a w R he Q hQ
    simp only [evC] at he
    split at he <;> first | (cases he; done) | skip
    rename_i its hits
    have hps' : ps = #[p] := by rw [← Array.toArray_toList (xs := ps), hps]
    subst hps'
    rw [hro hin]
    have hS : ∀ (w0 : World) (M : Nat → Prop) (t : Array Value), Same { I with keep := ks, inner := true } (rC C w0 M ks t) := fun w0 M t =>
      ⟨hI.P, hI.T, hI.np, hI.nt, rfl, fun h => (by cases h), hI.small⟩
    refine range_sound (ks := ks) R hE (hCE ▸ hC) (hE.chunk f hchk) (evA := fun S => evC call n x S) (evB := fun S => evC call n y S) ?_ ?_ (hI.nt ▸ hpn) (fun hm => ?_) (hI.fix hin) hits he hQ
    · intro fm w0 M t l ex Sf S A K a w R he Q hQ
      exact code_sound hC n asg _ x _ (rC C w0 M ks t) hCE { I with keep := ks, inner := true } (hS w0 M t) hE hx (some l) (fun h => by cases h) fm _ _ _ _ _ _ _ R he Q hQ
    · intro fm w0 M t l ex Sf S A K a w R he Q hQ
      exact code_sound hC n body _ y _ (rC C w0 M ks t) hCE { I with keep := ks, inner := true } (hS w0 M t) hE hy (some l) (fun h => by cases h) fm _ _ _ _ _ _ _ R he Q hQ
    · rw [memb_iff.2 hm] at hpk; cases hpk
  | .scope .., h, ac, h', C, hCE, I, hI, hE, hc, ro, hro, fm => by simp [cCode] at hc
  | .label .., h, ac, h', C, hCE, I, hI, hE, hc, ro, hro, fm => by simp [cCode] at hc
  | .goto .., h, ac, h', C, hCE, I, hI, hE, hc, ro, hro, fm => by simp [cCode] at hc
  | .refuse .., h, ac, h', C, hCE, I, hI, hE, hc, ro, hro, fm => by simp [cCode] at hc

variable {C : Ctx}

/-- One result, read. -/
def resC (tmps : Array Value) : ResultVar → Sem Value
  | .tmp t => pure (tmps.getD t undef)
  | .cell x t => do loadVar t (← asAddr (tmps.getD x undef))

/-- Results, read. -/
theorem resL_sound {A K : Nat → Nat} {S : St} {a : Act} {w : World} (R : Rel C A K S a w) : ∀ {rs : List ResultVar} {ars : List ARes} {raws : List AV}, cRes C.E.P rs = some ars → resL S ars = some raws →
    ∃ cvs : List Value, (rs.mapM (resC a.tmps)).run C.E.P w = Result.ok cvs w ∧ raws.length = cvs.length ∧
      ∀ j (h1 : j < raws.length) (h2 : j < cvs.length), VRep C.E C.np w (Still C A K S.l w) A K raws[j] cvs[j]
  | [], ars, raws, hc, hr => by
    simp only [cRes, Option.some.injEq] at hc; subst hc
    simp only [resL, Option.some.injEq] at hr; subst hr
    exact ⟨[], by simp, rfl, fun j h => by simp at h⟩
  | .tmp t :: rs, ars, raws, hc, hr => by
    simp only [cRes] at hc
    split at hc <;> first | (cases hc; done) | skip
    rename_i l hl
    cases hc
    simp only [resL, resV] at hr
    split at hr <;> first | (cases hr; done) | skip
    rename_i v vs h1 h2
    cases hr
    cases h1
    obtain ⟨cvs, p1, p2, p3⟩ := resL_sound R hl h2
    refine ⟨a.tmps.getD t undef :: cvs, ?_, by simp [p2], fun j h1 h2 => ?_⟩
    · rw [List.mapM_cons, Sem.run_bind]; simp only [resC, Sem.run_bind, Sem.run_pure, Result.andThen_ok, p1]
    · cases j with
      | zero => exact R.slot t
      | succ j => exact p3 j (by simpa using h1) (by simpa using h2)
  | .cell x t :: rs, ars, raws, hc, hr => by
    simp only [cRes] at hc
    split at hc <;> first | (cases hc; done) | skip
    rename_i m l hm hl
    cases hc
    simp only [resL] at hr
    split at hr <;> first | (cases hr; done) | skip
    rename_i v vs h1 h2
    cases hr
    obtain ⟨cvs, p1, p2, p3⟩ := resL_sound R hl h2
    have hx := R.slot x
    have key : ∃ u, (resC a.tmps (.cell x t)).run C.E.P w = Result.ok u w ∧ VRep C.E C.np w (Still C A K S.l w) A K v u := by
      simp only [resV] at h1
      split at h1 <;> first | (cases h1; done) | skip
      · rename_i d off hX
        rw [hX] at hx
        split at h1 <;> first | (cases h1; done) | skip
        rename_i cs hl
        have hrow := R.row d cs hl
        have hv := vrep_rf hx
        obtain ⟨u, hu, hr⟩ := row_read hm hrow h1
        exact ⟨u, by simp [resC, hv, asAddr, hu], hr⟩
      · rename_i cs off hX
        rw [hX] at hx
        obtain ⟨blk, o', f, hv, hN, hc, h1'⟩ := vrep_el hx
        have ev : ∀ {u : Value}, (loadVar t ⟨blk, o' + off, none⟩).run C.E.P w = .ok u w → (resC a.tmps (.cell x t)).run C.E.P w = Result.ok u w := by
          intro u hu
          simp [resC, hv, asAddr, hu]
        rcases agg_of hm with ⟨rfl, hag⟩ | ⟨n, i, rfl, hi, hs, ⟨d, hu, hd⟩, hag⟩
        · simp only [partV] at h1
          obtain ⟨hj, rfl⟩ := List.getElem?_eq_some_iff.1 h1
          exact ⟨_, ev (by simp [loadVar, hag, hc off hj]), .one (.flat (h1' off hj))⟩
        · simp only [partV] at h1
          cases hb : Nat.ble (off + n) cs.length
          · simp [hb] at h1
          · simp only [hb, cond_true, Option.some.injEq] at h1
            subst h1
            have hle := Nat.le_of_ble_eq_true hb
            refine ⟨.agg ((List.range n).map fun j => f (off + j)).toArray, ev (run_loadVar_mid w blk (o' + off) t _ d (fun j v hv => ?_) hu hd (by simp [hi, hs])), VRep.agL ⟨by simp; omega, fun j p q => ?_⟩⟩
            · obtain ⟨hj, rfl⟩ := List.getElem?_eq_some_iff.1 hv
              simp only [List.length_map, List.length_range] at hj
              have := hc (off + j) (by omega)
              simpa [Nat.add_assoc] using this
            · simp only [List.length_map, List.length_range] at q
              simp only [List.getElem_take, List.getElem_drop, List.getElem_map, List.getElem_range]
              exact h1' _ _
    obtain ⟨u, hu, hv⟩ := key
    refine ⟨u :: cvs, ?_, by simp [p2], fun j h1 h2 => ?_⟩
    · rw [List.mapM_cons, Sem.run_bind, hu]; simp only [Sem.run_bind, Result.andThen_ok, p1, Sem.run_pure]
    · cases j with
      | zero => exact hv
      | succ j => exact p3 j (by simpa using h1) (by simpa using h2)

end

theorem results_run {P : Program} {fn : Func} {tmps : Array Value} {w : World} {cvs : List Value}
    (h : (fn.results.toList.mapM (resC tmps)).run P w = Result.ok cvs w) : (results fn tmps).run P w = Result.ok (oneV cvs) w := by
  have hm : (fn.results.mapM (resC tmps)).run P w = .ok cvs.toArray w := by
    rw [← Array.toArray_toList (xs := fn.results), List.mapM_toArray]
    simp only [Sem.run_map, Array.toArray_toList, h, Result.andThen_ok]
  have e : results fn tmps = (do let vs ← fn.results.mapM (resC tmps); pure (if h : vs.size = 1 then vs[0] else Value.tuple vs)) := by
    unfold results
    congr 1
  rw [e, Sem.run_bind, hm]
  simp only [Result.andThen_ok, Sem.run_pure]
  congr 1
  match cvs with
  | [] => rfl
  | [x] => rfl
  | x :: y :: r => simp [oneV]

/-- On the way out: marks of loops over functions. -/
theorem leave_marks {C : Ctx} {A K : Nat → Nat} {S : St} {fn : Func} {t : Array Value} {n : Nat} {R : Ending → World → Prop} : ∀ (ds : List Deferred) (w : World), Rel C A K S ⟨t, ds⟩ w →
    (∀ w', Rel C A K S ⟨t, []⟩ w' → ∃ v, (results fn t).run C.E.P w' = .ok v w' ∧ R (.returned v) w') → LeavesInM (Fr none) n C.E.P fn t R ds .returning w
  | [], w, h, hf => hf w h
  | d :: ds, w, h, hf => by
    obtain ⟨D, hd, h0, hD⟩ := h.act.mark d (by simp)
    refine ⟨by simp, .inl ⟨D, w.putObj D (.deferred none), by rw [hd], run_takeDeferred hD, ?_⟩⟩
    refine leave_marks ds _ (h.turn hD rfl h0 rfl ⟨fun d' hd' => ?_, (List.nodup_cons.1 h.act.nodup).2, h.act.tsz, h.act.keep, fun hx => by have := h.act.none hx; cases this⟩) hf
    obtain ⟨D', e, h1, h2⟩ := h.act.mark d' (by simp [hd'])
    refine ⟨D', e, h1, (World.putObj_heap_other fun ee => ?_).trans h2⟩
    subst ee
    exact (List.nodup_cons.1 h.act.nodup).1 (by rw [hd, ← e]; exact hd')

/-- ALL FUNCTIONS. -/
theorem fun_sound {E : Env} {sents : List Nat} (hE : EnvOk E sents) {tab : Nat → Option AFun} (htab : ∀ f F, tab f = some F → ∃ fn x, E.P.funcs[f]? = some fn ∧ cFun E.P E.T sents x fn = some F) : ∀ n, CallSound E (evF tab n)
  | 0 => ⟨fun f args r h => by simp [evF] at h, fun f args r h => by simp [evF] at h, fun f args r h => by simp [evF] at h⟩
  | n + 1 => by
    have ih := fun_sound hE htab n
    have inv : ∀ {f : Nat} {args : List AV} {r : Ret}, evF tab (n + 1) f args = some r → ∃ (F : AFun) (fn : Func) (x : FnAnn) (c : Code) (b : AC) (h' : Heads) (rs : List ARes), tab f = some F ∧ E.P.funcs[f]? = some fn ∧ (fn.name == "runtime.NumGoroutine") = false ∧ fn.body = some c ∧
        cCode ⟨E.P, E.T, sents, x.ann, x.pre, fn.params.size + fn.nfree, fn.ntmps, [], false⟩ c x.heads = some (b, h') ∧ cRes E.P fn.results.toList = some rs ∧ (fn.params.size + fn.nfree ≤ fn.ntmps ∧ fn.ntmps ≤ 1000000) ∧ F = ⟨b, fn.params.size + fn.nfree, rs⟩ := by
      intro f args r h
      simp only [evF] at h
      split at h <;> first | (cases h; done) | skip
      rename_i F hF
      obtain ⟨fn, x, h1, h2⟩ := htab f F hF
      unfold cFun at h2
      split at h2 <;> first | (cases h2; done) | skip
      rename_i c hb
      simp only [Bool.cond_eq_ite] at h2
      split at h2 <;> first | (cases h2; done) | skip
      rename_i hn
      split at h2 <;> first | (cases h2; done) | skip
      rename_i b h' rs hc hr
      split at h2 <;> first | (cases h2; done) | skip
      rename_i hle
      cases h2
      exact ⟨_, fn, x, c, b, h', rs, hF, h1, by simpa using hn, hb, hc, hr, by simpa [Bool.and_eq_true, Nat.ble_eq] using hle, rfl⟩
    refine ⟨fun f args r h => ?_, fun f args r h => ?_, fun f args r h w M X A K cargs R hsz => ?_⟩
    · obtain ⟨F, fn, x, c, b, h', rs, _, h1, h2, h3, _⟩ := inv h
      exact ⟨fn, c, h1, h2, h3⟩
    · obtain ⟨F, fn, x, c, b, h', rs, hF, h1, h2, h3, h4, h5, h6, rfl⟩ := inv h
      simp only [evF, hF, Bool.cond_eq_ite] at h
      split at h <;> first | (cases h; done) | skip
      rename_i hnp
      have hnp := Nat.eq_of_beq_eq_true hnp
      omega
    · obtain ⟨F, fn, x, c, b, h', rs, hF, h1, h2, h3, h4, h5, h6, rfl⟩ := inv h
      simp only [evF, hF] at h
      simp only [Bool.cond_eq_ite] at h
      split at h <;> first | (cases h; done) | skip
      rename_i hnp
      have hnp := Nat.eq_of_beq_eq_true hnp
      refine calls_of_fr (r := none) (n := 0) (callsIn_of_wp_marks h1 h3 trivial ?_)
      -- the slots behind the arguments
      have R1 : Rel ⟨E, w, M, X, args.length, fn.ntmps, A, K, [], fun _ => undef, false⟩ A K ⟨enterS 0 args, enterL 0 args⟩ { tmps := cargs ++ Array.replicate (fn.ntmps - cargs.size) undef, defers := [] } w := by
        refine { R with slot := fun i => ?_, act := ⟨fun d h => by simp at h, List.nodup_nil, ?_, fun i h => by simp at h, fun _ => rfl⟩ }
        · have := R.slot i
          have e : (cargs ++ Array.replicate (fn.ntmps - cargs.size) undef).getD i undef = cargs.getD i undef := by
            simp only [Array.getD_eq_getD_getElem?, Array.getElem?_append]
            split
            · rfl
            · rename_i hi
              rw [Array.getElem?_eq_none (xs := cargs) (by omega)]
              simp only [Option.getD_none, Array.getElem?_replicate]
              split <;> rfl
          show VRep _ _ _ _ _ _ _ ((cargs ++ Array.replicate (fn.ntmps - cargs.size) undef).getD i undef)
          rw [e]; exact this
        · show (cargs ++ Array.replicate (fn.ntmps - cargs.size) undef).size = fn.ntmps
          simp; omega
      have main : ∀ (ex : Ex) (Sf : St), evC (evF tab n) n b ⟨enterS 0 args, enterL 0 args⟩ = some (ex, Sf) → (ex = .normal ∨ ex = .ret) → fin ⟨b, fn.params.size + fn.nfree, rs⟩ args Sf = some r →
          c.wpIn (Fr none) 0 E.P (bodyPostM (Fr none) 0 E.P fn fun e w' => ∃ cv, e = .returned cv ∧ Out E w M X A K args r cv w') { tmps := cargs ++ Array.replicate (fn.ntmps - cargs.size) undef, defers := [] } w := by
        intro ex Sf he hex hfin
        refine code_sound ih n c x.heads b h' ⟨E, w, M, X, args.length, fn.ntmps, A, K, [], fun _ => undef, false⟩ rfl ⟨E.P, E.T, sents, x.ann, x.pre, fn.params.size + fn.nfree, fn.ntmps, [], false⟩ ⟨rfl, rfl, hnp.symm, rfl, rfl, fun _ => rfl, h6.2⟩ hE h4 none (fun _ => rfl) 0 _ _ _ _ _ _ _ R1 he _ fun A' K' a' w' R' => ?_
        unfold fin at hfin
        split at hfin <;> first | (cases hfin; done) | skip
        rename_i raws hraws
        split at hfin <;> first | (cases hfin; done) | skip
        rename_i rets hh ss lent h2' hrets hlent
        simp only [Bool.cond_eq_ite] at hfin
        split at hfin <;> first | (cases hfin; done) | skip
        rename_i hok
        cases hfin
        have hpost : LeavesInM (Fr none) 0 E.P fn a'.tmps (fun e w' => ∃ cv, e = .returned cv ∧ Out E w M X A K args ⟨one rets, lent⟩ cv w') a'.defers .returning w' := by
          refine leave_marks (C := ⟨E, w, M, X, args.length, fn.ntmps, A, K, [], fun _ => undef, false⟩) a'.defers w' R' fun w2 R2 => ?_
          obtain ⟨cvs, q1, q2, q3⟩ := resL_sound R2 h5 hraws
          exact ⟨_, results_run q1, _, rfl, ⟨⟨Sf, ⟨a'.tmps, []⟩, A', K', fn.ntmps, raws, rets, cvs, hh, ss, h2', R2, q2, q3, by rw [hnp]; exact hrets, hlent, by rw [hnp]; exact hok, rfl, rfl⟩⟩⟩
        rcases hex with rfl | rfl <;> exact hpost
      cases he : evC (evF tab n) n b ⟨enterS 0 args, enterL 0 args⟩ with
      | none => simp [he] at h
      | some p =>
        obtain ⟨ex, Sf⟩ := p
        rw [he] at h
        cases ex with
        | normal => exact main _ _ he (.inl rfl) h
        | ret => exact main _ _ he (.inr rfl) h
        | exit id => cases h

end Zab

namespace Zab
open Go
set_option linter.unusedVariables false

def CallLe (c d : CallF) : Prop := ∀ f xs r, c f xs = some r → d f xs = some r

theorem CallLe.rfl' {c : CallF} : CallLe c c := fun _ _ _ h => h

theorem readV_mono {c d : CallF} (hle : CallLe c d) {ρ : Operand → AV} {l : List (Nat × List AV)} {o : AOp} {v : AV} (h : readV c ρ l o = some v) : readV d ρ l o = some v := by
  cases o with
  | call f xs =>
    simp only [readV] at h ⊢
    split at h <;> first | (cases h; done) | skip
    split at h <;> first | (cases h; done) | skip
    split at h <;> first | (cases h; done) | skip
    rename_i e
    rw [hle _ _ _ e]
    exact h
  | load m x => cases x <;> exact h
  | _ => exact h

theorem stepK_mono {c d : CallF} (hle : CallLe c d) {S : St} {dst : Option Nat} {o : AOp} {S1 : St} (h : stepK c S dst o = some S1) : stepK d S dst o = some S1 := by
  cases o with
  | callK f xs own =>
    simp only [stepK] at h ⊢
    split at h <;> first | (cases h; done) | skip
    split at h <;> first | (cases h; done) | skip
    simp only [Bool.cond_eq_ite] at h ⊢
    split at h <;> first | (cases h; done) | skip
    rename_i hs
    rw [if_neg hs]
    split at h <;> first | (cases h; done) | skip
    rename_i e
    rw [hle _ _ _ e]
    exact h
  | _ => exact h

theorem stepC_mono {c d : CallF} (hle : CallLe c d) {S : St} {dst : Option Nat} {o : AOp} {S1 : St} (h : stepC c S dst o = some S1) : stepC d S dst o = some S1 := by
  unfold stepC at h ⊢
  cases hm : mark8 o with
  | none => rw [hm] at h; exact stepK_mono hle h
  | some p =>
    obtain ⟨f, xs, own⟩ := p
    rw [hm] at h
    simp only at h ⊢
    cases hf : freezes S (rsOf (evalL (evalO S.s) xs)) with
    | none => rw [hf] at h; cases h
    | some S2 => rw [hf] at h; exact stepK_mono hle h

theorem step_mono {c d : CallF} (hle : CallLe c d) {o : AOper} {S S1 : St} (h : step c o S = some S1) : step d o S = some S1 := by
  unfold step at h ⊢
  split at h
  · rename_i hw
    split at h
    · exact h
    · rename_i hc
      cases hr : readV c (evalO S.s) S.l o.op with
      | none => simp [hr] at h
      | some v => rw [hr] at h; rw [readV_mono hle hr]; exact h
    · exact h
    · exact stepC_mono hle h
  · exact h
  · cases h

theorem steps_mono {c d : CallF} (hle : CallLe c d) : ∀ {os : List AOper} {S S1 : St}, steps c os S = some S1 → steps d os S = some S1
  | [], S, S1, h => h
  | o :: r, S, S1, h => by
    simp only [steps] at h ⊢
    split at h <;> first | (cases h; done) | skip
    rename_i S2 e
    rw [step_mono hle e]
    exact steps_mono hle h

theorem iter_mono {f g : St → Option (Ex × St)} (hfg : ∀ S r, f S = some r → g S = some r) : ∀ {n m : Nat}, n ≤ m → ∀ {S : St} {r : Ex × St}, iter f n S = some r → iter g m S = some r
  | 0, m, _, S, r, h => by cases h
  | n + 1, 0, hle, S, r, h => by omega
  | n + 1, m + 1, hle, S, r, h => by
    simp only [iter] at h ⊢
    cases hs : f S with
    | none => rw [hs] at h; cases h
    | some p =>
      rw [hs] at h
      rw [hfg _ _ hs]
      obtain ⟨e, S1⟩ := p
      cases e with
      | normal => exact iter_mono hfg (by omega) h
      | ret => exact h
      | exit id => exact h

theorem rounds_mono {evA evB evA' evB' : St → Option (Ex × St)} {p : Nat} {ks kr : List Nat} (hA : ∀ S r, evA S = some r → evA' S = some r) (hB : ∀ S r, evB S = some r → evB' S = some r) : ∀ {its : List AV} {S : St} {r : Ex × St}, rounds evA evB p ks kr its S = some r → rounds evA' evB' p ks kr its S = some r
  | [], S, r, h => h
  | x :: its, S, r, h => by
    simp only [rounds] at h ⊢
    cases h1 : evA { S with s := put S.s p x } with
    | none => rw [h1] at h; cases h
    | some q =>
      obtain ⟨e, S1⟩ := q
      rw [h1] at h
      rw [hA _ _ h1]
      cases e with
      | normal =>
        simp only at h ⊢
        cases h2 : evB S1 with
        | none => rw [h2] at h; cases h
        | some q =>
          obtain ⟨e, S2⟩ := q
          rw [h2] at h
          rw [hB _ _ h2]
          cases e with
          | normal => exact rounds_mono hA hB h
          | ret => exact h
          | exit id => exact h
      | ret => cases h
      | exit id => cases h

theorem evC_mono {c d : CallF} (hle : CallLe c d) {n m : Nat} (hnm : n ≤ m) : ∀ {a : AC} {S : St} {r : Ex × St}, evC c n a S = some r → evC d m a S = some r
  | .skip, S, r, h => h
  | .ret, S, r, h => h
  | .exit id, S, r, h => h
  | .reg ops, S, r, h => by
    simp only [evC] at h ⊢
    split at h <;> first | (cases h; done) | skip
    rename_i S1 e
    rw [steps_mono hle e]; exact h
  | .seq a b, S, r, h => by
    simp only [evC] at h ⊢
    cases hs : evC c n a S with
    | none => rw [hs] at h; cases h
    | some p =>
      rw [hs] at h
      rw [evC_mono hle hnm hs]
      obtain ⟨e, S1⟩ := p
      cases e with
      | normal => exact evC_mono hle hnm h
      | ret => exact h
      | exit id => exact h
  | .cond o a b, S, r, h => by
    simp only [evC] at h ⊢
    split at h <;> first | (cases h; done) | skip
    rename_i t _
    cases t
    · exact evC_mono hle hnm (a := b) h
    · exact evC_mono hle hnm (a := a) h
  | .block id a, S, r, h => by
    simp only [evC] at h ⊢
    split at h <;> first | (cases h; done) | skip
    rename_i e
    rw [evC_mono hle hnm e]; exact h
  | .loop ks kr a, S, r, h => by
    simp only [evC] at h ⊢
    exact iter_mono (fun S r h => evC_mono hle hnm h) hnm h
  | .pre fr ks kr a, S, r, h => by
    simp only [evC] at h ⊢
    split at h <;> first | (cases h; done) | skip
    exact evC_mono hle hnm h
  | .rng f g p ks kr a b, S, r, h => by
    simp only [evC] at h ⊢
    split at h <;> first | (cases h; done) | skip
    exact rounds_mono (fun S r h => evC_mono hle hnm h) (fun S r h => evC_mono hle hnm h) h

theorem evF_succ {tab : Nat → Option AFun} : ∀ n, CallLe (evF tab n) (evF tab (n + 1))
  | 0 => fun f xs r h => by cases h
  | n + 1 => fun f xs r h => by
    rw [evF] at h ⊢
    split at h <;> first | (cases h; done) | skip
    rename_i A _
    cases hb : Nat.beq xs.length A.np <;> rw [hb] at h <;> first | (cases h; done) | skip
    simp only [cond_true] at h ⊢
    split at h <;> first | (cases h; done) | skip
    all_goals rename_i e; rw [evC_mono (evF_succ n) (by omega) e]; exact h

theorem evF_le {tab : Nat → Option AFun} {n : Nat} : ∀ {m : Nat}, n ≤ m → CallLe (evF tab n) (evF tab m)
  | 0, h => by cases Nat.le_zero.1 h; exact .rfl'
  | m + 1, h => by
    by_cases e : n = m + 1
    · subst e; exact .rfl'
    · exact fun f xs r hr => evF_succ m _ _ _ (evF_le (by omega : n ≤ m) _ _ _ hr)

open Classical in
/-- What a call gives back, with whatever rounds it needs. -/
noncomputable def FF (tab : Nat → Option AFun) : CallF := fun f xs =>
  if h : ∃ r n, evF tab n f xs = some r then some h.choose else none

theorem FF_of {tab : Nat → Option AFun} {n f : Nat} {xs : List AV} {r : Ret} (h : evF tab n f xs = some r) : FF tab f xs = some r := by
  unfold FF
  have h' : ∃ r n, evF tab n f xs = some r := ⟨r, n, h⟩
  rw [dif_pos h']
  obtain ⟨m, hm⟩ := h'.choose_spec
  have h1 := evF_le (Nat.le_max_left n m) _ _ _ h
  have h2 := evF_le (Nat.le_max_right n m) _ _ _ hm
  rw [h1] at h2
  cases h2
  rfl

theorem FF_inv {tab : Nat → Option AFun} {f : Nat} {xs : List AV} {r : Ret} (h : FF tab f xs = some r) : ∃ n, evF tab n f xs = some r := by
  unfold FF at h
  split at h
  · rename_i h'
    obtain ⟨m, hm⟩ := h'.choose_spec
    cases h
    exact ⟨m, hm⟩
  · cases h

theorem evF_FF {tab : Nat → Option AFun} (n : Nat) : CallLe (evF tab n) (FF tab) := fun _ _ _ h => FF_of h

theorem readV_FF {tab : Nat → Option AFun} {ρ : Operand → AV} {l : List (Nat × List AV)} {o : AOp} {v : AV} (h : readV (FF tab) ρ l o = some v) : ∃ n, readV (evF tab n) ρ l o = some v := by
  cases o with
  | call f xs =>
    simp only [readV] at h ⊢
    split at h <;> first | (cases h; done) | skip
    split at h <;> first | (cases h; done) | skip
    split at h <;> first | (cases h; done) | skip
    rename_i e
    obtain ⟨n, hn⟩ := FF_inv e
    exact ⟨n, by rw [hn]; exact h⟩
  | load m x => cases x <;> exact ⟨0, h⟩
  | _ => exact ⟨0, h⟩

theorem stepK_FF {tab : Nat → Option AFun} {S : St} {dst : Option Nat} {o : AOp} {S1 : St} (h : stepK (FF tab) S dst o = some S1) : ∃ n, stepK (evF tab n) S dst o = some S1 := by
  cases o with
  | callK f xs own =>
    simp only [stepK] at h ⊢
    split at h <;> first | (cases h; done) | skip
    split at h <;> first | (cases h; done) | skip
    simp only [Bool.cond_eq_ite] at h ⊢
    split at h <;> first | (cases h; done) | skip
    rename_i hs
    split at h <;> first | (cases h; done) | skip
    rename_i e
    obtain ⟨n, hn⟩ := FF_inv e
    exact ⟨n, by rw [if_neg hs, hn]; exact h⟩
  | _ => exact ⟨0, h⟩

theorem stepC_FF {tab : Nat → Option AFun} {S : St} {dst : Option Nat} {o : AOp} {S1 : St} (h : stepC (FF tab) S dst o = some S1) : ∃ n, stepC (evF tab n) S dst o = some S1 := by
  unfold stepC at h ⊢
  cases hm : mark8 o with
  | none => rw [hm] at h; exact stepK_FF h
  | some p =>
    obtain ⟨f, xs, own⟩ := p
    rw [hm] at h
    simp only at h ⊢
    cases hf : freezes S (rsOf (evalL (evalO S.s) xs)) with
    | none => rw [hf] at h; cases h
    | some S2 => rw [hf] at h; exact stepK_FF h

theorem step_FF {tab : Nat → Option AFun} {o : AOper} {S S1 : St} (h : step (FF tab) o S = some S1) : ∃ n, step (evF tab n) o S = some S1 := by
  unfold step at h ⊢
  split at h
  · rename_i hw
    split at h
    · exact ⟨0, h⟩
    · rename_i hc
      cases hr : readV (FF tab) (evalO S.s) S.l o.op with
      | none => simp [hr] at h
      | some v => rw [hr] at h; obtain ⟨n, hn⟩ := readV_FF hr; exact ⟨n, by rw [hn]; exact h⟩
    · exact ⟨0, h⟩
    · exact stepC_FF h
  · exact ⟨0, h⟩
  · cases h

theorem steps_FF {tab : Nat → Option AFun} : ∀ {os : List AOper} {S S1 : St}, steps (FF tab) os S = some S1 → ∃ n, steps (evF tab n) os S = some S1
  | [], S, S1, h => ⟨0, h⟩
  | o :: r, S, S1, h => by
    simp only [steps] at h ⊢
    split at h <;> first | (cases h; done) | skip
    rename_i S2 e
    obtain ⟨n, hn⟩ := step_FF e
    obtain ⟨m, hm⟩ := steps_FF h
    exact ⟨max n m, by rw [step_mono (evF_le (Nat.le_max_left n m)) hn]; exact steps_mono (evF_le (Nat.le_max_right n m)) hm⟩

theorem evC_FF {tab : Nat → Option AFun} (n : Nat) : ∀ {a : AC} {S : St} {r : Ex × St}, evC (FF tab) n a S = some r → ∃ m, evC (evF tab m) m a S = some r
  | .skip, S, r, h => ⟨0, h⟩
  | .ret, S, r, h => ⟨0, h⟩
  | .exit id, S, r, h => ⟨0, h⟩
  | .reg ops, S, r, h => by
    simp only [evC] at h ⊢
    split at h <;> first | (cases h; done) | skip
    rename_i S1 e
    obtain ⟨n, hn⟩ := steps_FF e
    exact ⟨n, by rw [hn]; exact h⟩
  | .seq a b, S, r, h => by
    simp only [evC] at h ⊢
    cases hs : evC (FF tab) n a S with
    | none => rw [hs] at h; cases h
    | some p =>
      rw [hs] at h
      obtain ⟨m, hm⟩ := evC_FF n hs
      obtain ⟨e, S1⟩ := p
      cases e with
      | normal =>
        obtain ⟨m', hm'⟩ := evC_FF n (a := b) h
        refine ⟨max m m', ?_⟩
        rw [evC_mono (evF_le (Nat.le_max_left m m')) (Nat.le_max_left m m') hm]
        exact evC_mono (evF_le (Nat.le_max_right m m')) (Nat.le_max_right m m') hm'
      | ret => exact ⟨m, by rw [hm]; exact h⟩
      | exit id => exact ⟨m, by rw [hm]; exact h⟩
  | .cond o a b, S, r, h => by
    simp only [evC] at h ⊢
    split at h <;> first | (cases h; done) | skip
    rename_i t _
    cases t
    · exact evC_FF n (a := b) h
    · exact evC_FF n (a := a) h
  | .block id a, S, r, h => by
    simp only [evC] at h ⊢
    split at h <;> first | (cases h; done) | skip
    rename_i e
    obtain ⟨m, hm⟩ := evC_FF n e
    exact ⟨m, by rw [hm]; exact h⟩
  | .loop ks kr a, S, r, h => by
    simp only [evC] at h ⊢
    have key : ∀ k {S : St} {r : Ex × St}, iter (fun S => evC (FF tab) n a (S.clean ks kr)) k S = some r → ∃ m, k ≤ m ∧ iter (fun S => evC (evF tab m) m a (S.clean ks kr)) k S = some r := by
      intro k
      induction k with
      | zero => intro S r h; cases h
      | succ k ih =>
        intro S r h
        simp only [iter] at h ⊢
        cases hs : evC (FF tab) n a (S.clean ks kr) with
        | none => rw [hs] at h; cases h
        | some p =>
          rw [hs] at h
          obtain ⟨m, hm⟩ := evC_FF n hs
          obtain ⟨e, S1⟩ := p
          cases e with
          | normal =>
            obtain ⟨m', hk, hm'⟩ := ih h
            refine ⟨max m (m' + 1), by omega, ?_⟩
            have le1 : m ≤ max m (m' + 1) := by omega
            have le2 : m' ≤ max m (m' + 1) := by omega
            rw [evC_mono (evF_le le1) le1 hm]
            exact iter_mono (fun S r h => evC_mono (evF_le le2) le2 h) (Nat.le_refl k) hm'
          | ret =>
            have le1 : m ≤ max m (k + 1) := by omega
            exact ⟨max m (k + 1), by omega, by rw [evC_mono (evF_le le1) le1 hm]; exact h⟩
          | exit id =>
            have le1 : m ≤ max m (k + 1) := by omega
            exact ⟨max m (k + 1), by omega, by rw [evC_mono (evF_le le1) le1 hm]; exact h⟩
    obtain ⟨m, hk, hm⟩ := key n h
    exact ⟨m, iter_mono (fun S r h => h) hk hm⟩
  | .pre fr ks kr a, S, r, h => by
    simp only [evC] at h ⊢
    split at h <;> first | (cases h; done) | skip
    exact evC_FF n (a := a) h
  | .rng f g p ks kr a b, S, r, h => by
    simp only [evC] at h ⊢
    split at h <;> first | (cases h; done) | skip
    rename_i its _
    have key : ∀ (its : List AV) {S : St} {r : Ex × St}, rounds (fun S => evC (FF tab) n a S) (fun S => evC (FF tab) n b S) p ks kr its S = some r → ∃ m, rounds (fun S => evC (evF tab m) m a S) (fun S => evC (evF tab m) m b S) p ks kr its S = some r := by
      intro its
      induction its with
      | nil => intro S r h; exact ⟨0, h⟩
      | cons x its ih =>
        intro S r h
        simp only [rounds] at h
        cases h1 : evC (FF tab) n a { S with s := put S.s p x } with
        | none => rw [h1] at h; cases h
        | some q =>
          obtain ⟨e, S1⟩ := q
          rw [h1] at h
          cases e with
          | ret => cases h
          | exit id => cases h
          | normal =>
            simp only at h
            obtain ⟨m1, hm1⟩ := evC_FF n h1
            cases h2 : evC (FF tab) n b S1 with
            | none => rw [h2] at h; cases h
            | some q =>
              obtain ⟨e, S2⟩ := q
              rw [h2] at h
              obtain ⟨m2, hm2⟩ := evC_FF n h2
              cases e with
              | normal =>
                obtain ⟨m3, hm3⟩ := ih h
                have l1 : m1 ≤ max m1 (max m2 m3) := by omega
                have l2 : m2 ≤ max m1 (max m2 m3) := by omega
                have l3 : m3 ≤ max m1 (max m2 m3) := by omega
                refine ⟨max m1 (max m2 m3), ?_⟩
                simp only [rounds, evC_mono (evF_le l1) l1 hm1, evC_mono (evF_le l2) l2 hm2]
                exact rounds_mono (fun S r h => evC_mono (evF_le l3) l3 h) (fun S r h => evC_mono (evF_le l3) l3 h) hm3
              | ret =>
                have l1 : m1 ≤ max m1 m2 := by omega
                have l2 : m2 ≤ max m1 m2 := by omega
                exact ⟨max m1 m2, by simp only [rounds, evC_mono (evF_le l1) l1 hm1, evC_mono (evF_le l2) l2 hm2]; exact h⟩
              | exit id =>
                have l1 : m1 ≤ max m1 m2 := by omega
                have l2 : m2 ≤ max m1 m2 := by omega
                exact ⟨max m1 m2, by simp only [rounds, evC_mono (evF_le l1) l1 hm1, evC_mono (evF_le l2) l2 hm2]; exact h⟩
    exact key its h

/-! ### Rules -/

/-- Code ends, and what it leaves is so. -/
def W (F : CallF) (a : AC) (S : St) (Q : Ex → St → Prop) : Prop := ∃ n e S1, evC F n a S = some (e, S1) ∧ Q e S1

section
variable {F : CallF} {S : St} {Q : Ex → St → Prop}

theorem W.mono {a : AC} {Q' : Ex → St → Prop} (h : W F a S Q) (hq : ∀ e S1, Q e S1 → Q' e S1) : W F a S Q' := by
  obtain ⟨n, e, S1, h1, h2⟩ := h
  exact ⟨n, e, S1, h1, hq _ _ h2⟩

theorem w_skip (h : Q .normal S) : W F .skip S Q := ⟨0, _, _, rfl, h⟩
theorem w_ret (h : Q .ret S) : W F .ret S Q := ⟨0, _, _, rfl, h⟩
theorem w_exit {id : Nat} (h : Q (.exit id) S) : W F (.exit id) S Q := ⟨0, _, _, rfl, h⟩

theorem w_reg {ops : List AOper} {S1 : St} (h : steps F ops S = some S1) (hq : Q .normal S1) : W F (.reg ops) S Q :=
  ⟨0, _, _, by simp only [evC, h], hq⟩

/-- What comes after a first piece. -/
def andThen (F : CallF) (b : AC) (Q : Ex → St → Prop) : Ex → St → Prop
  | .normal, S => W F b S Q
  | e, S => Q e S

theorem w_seq {a b : AC} (h : W F a S (andThen F b Q)) : W F (.seq a b) S Q := by
  obtain ⟨n, e, S1, h1, h2⟩ := h
  cases e with
  | normal =>
    obtain ⟨m, e', S2, h3, h4⟩ := h2
    exact ⟨max n m, e', S2, by simp only [evC]; rw [evC_mono .rfl' (Nat.le_max_left n m) h1]; exact evC_mono .rfl' (Nat.le_max_right n m) h3, h4⟩
  | ret => exact ⟨n, _, _, by simp only [evC, h1], h2⟩
  | exit id => exact ⟨n, _, _, by simp only [evC, h1], h2⟩

theorem w_cond {c : Operand} {a b : AC} {t : Bool} (hc : evalO S.s c = .b t) (h : if t = true then W F a S Q else W F b S Q) : W F (.cond c a b) S Q := by
  cases t
  · obtain ⟨n, e, S1, h1, h2⟩ := h
    exact ⟨n, e, S1, by simp only [evC, hc]; exact h1, h2⟩
  · obtain ⟨n, e, S1, h1, h2⟩ := h
    exact ⟨n, e, S1, by simp only [evC, hc]; exact h1, h2⟩

theorem w_block {id : Nat} {a : AC} (h : W F a S fun e S1 => Q (e.unblock id) S1) : W F (.block id a) S Q := by
  obtain ⟨n, e, S1, h1, h2⟩ := h
  exact ⟨n, _, S1, by simp only [evC, h1], h2⟩

theorem w_pre {fr ks kr : List Nat} {a : AC} {S1 : St} (hf : freezes S fr = some S1) (h : W F a (S1.clean ks kr) Q) : W F (.pre fr ks kr a) S Q := by
  obtain ⟨n, e, S2, h1, h2⟩ := h
  exact ⟨n, e, S2, by simp only [evC, hf]; exact h1, h2⟩

/-- One round. -/
theorem w_loop {ks kr : List Nat} {a : AC} (h : W F a (S.clean ks kr) (andThen F (.loop ks kr a) Q)) : W F (.loop ks kr a) S Q := by
  obtain ⟨n, e, S1, h1, h2⟩ := h
  cases e with
  | normal =>
    obtain ⟨m, e', S2, h3, h4⟩ := h2
    simp only [evC] at h3
    refine ⟨max n m + 1, e', S2, ?_, h4⟩
    simp only [evC, iter]
    rw [evC_mono .rfl' (by omega : n ≤ max n m + 1) h1]
    exact iter_mono (fun S r h => evC_mono .rfl' (by omega : m ≤ max n m + 1) h) (by omega) h3
  | ret =>
    refine ⟨n + 1, _, _, ?_, h2⟩
    simp only [evC, iter]
    rw [evC_mono .rfl' (by omega : n ≤ n + 1) h1]
  | exit id =>
    refine ⟨n + 1, _, _, ?_, h2⟩
    simp only [evC, iter]
    rw [evC_mono .rfl' (by omega : n ≤ n + 1) h1]

/-- Rounds, by what holds at their heads and grows less. -/
theorem w_rounds {ks kr : List Nat} {a : AC} {I : Nat → St → Prop} (hI : ∀ m S, I m S → W F a (S.clean ks kr) fun e S1 => match e with | .normal => ∃ m', m' < m ∧ I m' S1 | e => Q e S1) {m : Nat} (h : I m S) : W F (.loop ks kr a) S Q := by
  induction m using Nat.strongRecOn generalizing S with
  | _ m ih =>
    refine w_loop ((hI m S h).mono fun e S1 h1 => ?_)
    cases e with
    | normal => obtain ⟨m', hm, hi⟩ := h1; exact ih m' hm hi
    | ret => exact h1
    | exit id => exact h1

end

section
variable {F : CallF} {S : St} {Q : Ex → St → Prop}

/-- What follows what a round is given; what follows a round. -/
def inR (F : CallF) (b : AC) (K : Ex → St → Prop) : Ex → St → Prop
  | .normal, S => W F b S K
  | _, _ => False
def nextR (ks kr : List Nat) (I : St → Prop) (Q : Ex → St → Prop) : Ex → St → Prop
  | .normal, S => I (S.clean ks kr)
  | e, S => Q e (S.clean ks kr)
theorem inR_normal {b : AC} {K : Ex → St → Prop} {S : St} : inR F b K .normal S = W F b S K := rfl
theorem nextR_normal {ks kr : List Nat} {I : St → Prop} {S : St} : nextR ks kr I Q .normal S = I (S.clean ks kr) := rfl
theorem nextR_ret {ks kr : List Nat} {I : St → Prop} {S : St} : nextR ks kr I Q .ret S = Q .ret (S.clean ks kr) := rfl
theorem nextR_exit {ks kr : List Nat} {I : St → Prop} {S : St} {id : Nat} : nextR ks kr I Q (.exit id) S = Q (.exit id) (S.clean ks kr) := rfl

/-- Rounds, one behind the other. -/
def WR (F : CallF) (p : Nat) (ks kr : List Nat) (a b : AC) (Q : Ex → St → Prop) : List AV → St → Prop
  | [], S => Q .normal S
  | x :: r, S => W F a { S with s := put S.s p x } (inR F b (nextR ks kr (fun S => WR F p ks kr a b Q r S) Q))

theorem wr_rounds {p : Nat} {ks kr : List Nat} {a b : AC} : ∀ {its : List AV} {S : St}, WR F p ks kr a b Q its S → ∃ n e S1, rounds (fun S => evC F n a S) (fun S => evC F n b S) p ks kr its S = some (e, S1) ∧ Q e S1
  | [], S, h => ⟨0, _, _, rfl, h⟩
  | x :: r, S, h => by
    obtain ⟨n1, e1, S1, h1, h⟩ := h
    cases e1 with
    | ret => exact h.elim
    | exit id => exact h.elim
    | normal =>
      obtain ⟨n2, e2, S2, h2, h⟩ := h
      cases e2 with
      | normal =>
        obtain ⟨n3, e, S3, h3, hq⟩ := wr_rounds h
        refine ⟨max n1 (max n2 n3), e, S3, ?_, hq⟩
        simp only [rounds, evC_mono (n := n1) (m := max n1 (max n2 n3)) CallLe.rfl' (by omega) h1, evC_mono (n := n2) (m := max n1 (max n2 n3)) CallLe.rfl' (by omega) h2]
        exact rounds_mono (fun S r h => evC_mono (n := n3) (m := max n1 (max n2 n3)) CallLe.rfl' (by omega) h) (fun S r h => evC_mono (n := n3) (m := max n1 (max n2 n3)) CallLe.rfl' (by omega) h) h3
      | ret => exact ⟨max n1 n2, _, _, by simp only [rounds, evC_mono (n := n1) (m := max n1 n2) CallLe.rfl' (by omega) h1, evC_mono (n := n2) (m := max n1 n2) CallLe.rfl' (by omega) h2], h⟩
      | exit id => exact ⟨max n1 n2, _, _, by simp only [rounds, evC_mono (n := n1) (m := max n1 n2) CallLe.rfl' (by omega) h1, evC_mono (n := n2) (m := max n1 n2) CallLe.rfl' (by omega) h2], h⟩

theorem w_rng {f : Nat} {g : Operand} {p : Nat} {ks kr : List Nat} {a b : AC} {its : List AV} (hi : rngItems f (evalO S.s g) = some its) (h : WR F p ks kr a b Q its (S.clean ks kr)) : W F (.rng f g p ks kr a b) S Q := by
  obtain ⟨n, e, S1, h, hq⟩ := wr_rounds h
  exact ⟨n, e, S1, by simp only [evC, hi]; exact h, hq⟩

/-- By what holds between two rounds. -/
theorem wr_inv {p : Nat} {ks kr : List Nat} {a b : AC} (I : Nat → St → Prop) : ∀ {its : List AV} {S : St} {j : Nat}, I j S → (∀ i (hi : i < its.length) S, I (j + i) S → W F a { S with s := put S.s p its[i] } (inR F b (nextR ks kr (I (j + (i + 1))) Q))) → (∀ S, I (j + its.length) S → Q .normal S) → WR F p ks kr a b Q its S
  | [], S, j, h, _, hl => hl S h
  | x :: r, S, j, h, hs, hl => by
    refine (hs 0 (by simp) S h).mono fun e S1 h1 => ?_
    cases e with
    | ret => exact h1
    | exit id => exact h1
    | normal =>
      refine W.mono h1 fun e S2 h2 => ?_
      cases e with
      | ret => exact h2
      | exit id => exact h2
      | normal =>
        refine wr_inv I (j := j + 1) h2 (fun i hi S hS => ?_) (fun S hS => hl S (by simpa [Nat.add_assoc, Nat.add_comm 1] using hS))
        have := hs (i + 1) (by simpa using hi) S (by simpa [Nat.add_assoc, Nat.add_comm 1] using hS)
        simpa [Nat.add_assoc, Nat.add_comm 1] using this
end

/-- A call, by its function's code. -/
theorem call_of {tab : Nat → Option AFun} {f : Nat} {A : AFun} {xs : List AV} {r : Ret} (hA : tab f = some A) (hn : xs.length = A.np)
    (h : W (FF tab) A.body ⟨enterS 0 xs, enterL 0 xs⟩ fun e S => (match e with | .exit _ => False | _ => True) ∧ fin A xs S = some r) : FF tab f xs = some r := by
  obtain ⟨n, e, S1, h1, h2, h3⟩ := h
  obtain ⟨m, hm⟩ := evC_FF n h1
  refine FF_of (n := m + 1) ?_
  simp only [evF, hA]
  rw [show Nat.beq xs.length A.np = true by rw [hn]; exact Nat.beq_refl _]
  simp only [cond_true]
  rw [hm]
  cases e with
  | normal => exact h3
  | ret => exact h3
  | exit id => exact h2.elim

end Zab

namespace Zab
open Go
set_option linter.unusedVariables false

theorem CallSound.FF {E : Env} {tab : Nat → Option AFun} (h : ∀ n, CallSound E (evF tab n)) : CallSound E (FF tab) :=
  ⟨fun f args r hr => by obtain ⟨n, hn⟩ := FF_inv hr; exact (h n).body f args r hn,
   fun f args r hr => by obtain ⟨n, hn⟩ := FF_inv hr; exact (h n).len f args r hn,
   fun f args r hr => by obtain ⟨n, hn⟩ := FF_inv hr; exact (h n).calls f args r hn⟩

/-- Nothing that is lent. -/
def noOp1 : AV → Bool
  | .os _ _ _ | .op _ | .oq _ | .aq _ | .fn _ (_ :: _) => false
  | _ => true
def noOps : List AV → Bool
  | [] => true
  | x :: r => noOp1 x && noOps r

theorem noOps_get : ∀ {l : List AV}, noOps l = true → ∀ (j : Nat) (h : j < l.length), noOp1 l[j] = true
  | [], h, j, hj => by simp at hj
  | x :: r, h, 0, hj => by simp only [noOps, Bool.and_eq_true] at h; exact h.1
  | x :: r, h, j + 1, hj => by simp only [noOps, Bool.and_eq_true] at h; exact noOps_get h.2 j (by simpa using hj)
theorem noOp1_rows {x : AV} (h : noOp1 x = true) (j : Nat) : argRows j x = [] ∧ slotOf j x = x := by
  cases x with
  | fn f caps =>
    cases caps with
    | nil => exact ⟨rfl, rfl⟩
    | cons => cases h
  | _ => first | (cases h; done) | exact ⟨rfl, rfl⟩
/-- What stands for a value is nothing that is lent. -/
theorem noOp1_rep {E : Env} {np : Nat} {w : World} {N : Nat → Prop} {A K : Nat → Nat} {x : AV} {v : Value} (h : V1 E np w N A K x v) : noOp1 x = true := by
  cases h with
  | flat h => cases h <;> rfl
  | _ => rfl
theorem noOps_rep {E : Env} {np : Nat} {w : World} {N : Nat → Prop} {A K : Nat → Nat} : ∀ {args : List AV} {cargs : List Value}, cargs.length = args.length → (∀ j (h1 : j < args.length) (h2 : j < cargs.length), V1 E np w N A K args[j] cargs[j]) → noOps args = true
  | [], _, _, _ => rfl
  | x :: r, [], h, _ => by simp at h
  | x :: r, v :: vs, h, hv => by
    have h0 := hv 0 (by simp) (by simp)
    simp only [List.getElem_cons_zero] at h0
    have ih := noOps_rep (args := r) (cargs := vs) (by simpa using h) (fun j h1 h2 => hv (j + 1) (Nat.succ_lt_succ h1) (Nat.succ_lt_succ h2))
    simp only [noOps, noOp1_rep h0, ih, Bool.and_true]
theorem noOps_rows : ∀ {l : List AV}, noOps l = true → ∀ j, enterL j l = []
  | [], _, _ => rfl
  | x :: r, h, j => by
    simp only [noOps, Bool.and_eq_true] at h
    simp only [enterL, (noOp1_rows h.1 j).1, noOps_rows h.2, List.append_nil]

/-- A LAW's CALL: arguments by value; one plain value back; nothing old is turned. -/
theorem law_calls {E : Env} {sents : List Nat} {tab : Nat → Option AFun} (hE : EnvOk E sents)
    (htab : ∀ f F, tab f = some F → ∃ fn x, E.P.funcs[f]? = some fn ∧ cFun E.P E.T sents x fn = some F)
    {f : Nat} {args : List AV} {t : Bool} (h : FF tab f args = some ⟨.b t, []⟩) {W : World} {cargs : Array Value} (hG : GOk E W) (hn : noOps args = true) (hsz : cargs.size = args.length)
    (hv : ∀ j (h1 : j < args.length) (h2 : j < cargs.size), V1 E args.length W (fun b => b < W.heap.size) (fun _ => 0) (fun _ => 0) args[j] cargs[j]) :
    Calls E.P f cargs W fun e W' => e = .returned (.bool t) ∧ RowKit.Below W.heap.size W W' := by
  have hl : ∀ d, look (enterL 0 args) d = none := fun d => by rw [noOps_rows hn]; rfl
  have live : ∀ d, ¬ Live (enterL 0 args) (fun _ => 0) d := fun d hd => hd.1 (hl d)
  have R : Rel ⟨E, W, fun _ => False, fun _ => False, args.length, cargs.size, fun _ => 0, fun _ => 0, [], fun _ => undef, false⟩ (fun _ => 0) (fun _ => 0) ⟨enterS 0 args, enterL 0 args⟩ ⟨cargs, []⟩ W := by
    refine { slot := fun i => ?_, row := fun d cs h => ?_, inj := fun d e h => (live d h).elim, own := fun d h => (live d h).elim, arg := fun d _ h => (h (hl d)).elim, glob := hG, frame := fun _ _ _ => rfl, size := Nat.le_refl _, os := rfl, tape := rfl, output := rfl, act := ⟨fun d h => by simp at h, List.nodup_nil, rfl, fun i h => by simp at h, fun _ => rfl⟩, xlt := fun _ h => h.elim, npl := (CallSound.FF (fun_sound hE htab)).len f args _ h }
    · show VRep E args.length W _ _ _ (get (enterS 0 args) i) (cargs.getD i undef)
      rw [get_enterS]
      simp only [Nat.zero_le, if_true, Nat.sub_zero]
      by_cases hi : i < args.length
      · have h2 : i < cargs.size := by omega
        have h0 := (VRep.one (hv i hi h2)).mono (N' := Still ⟨E, W, fun _ => False, fun _ => False, args.length, cargs.size, fun _ => 0, fun _ => 0, [], fun _ => undef, false⟩ (fun _ => 0) (fun _ => 0) (enterL 0 args) W) (A' := fun _ => 0) (K' := fun _ => 0)
          (fun b hb => ⟨hb, fun hx => hx, fun d hd => (live d hd).elim⟩) (fun _ _ => rfl) (fun _ _ => ⟨rfl, rfl⟩)
        have e1 : cargs.getD i undef = cargs[i] := by simp [Array.getD_eq_getD_getElem?, h2]
        rw [e1, List.getElem?_eq_getElem hi]
        simp only [(noOp1_rows (noOps_get hn i hi) i).2]
        exact h0
      · rw [List.getElem?_eq_none (by omega)]
        exact .one (.gone _)
    · rw [hl d] at h; cases h
  refine ((CallSound.FF (fun_sound hE htab)).calls f args _ h W _ _ _ _ cargs R hsz).mono fun e W' ⟨cv, he, S, a, A', K', nt, raws, rs, cvs, hh, ss, h', R', hlen, hraws, hret, _, _, hr, hcv⟩ => ?_
  have hb : RowKit.Below W.heap.size W W' := ⟨R'.os, R'.tape, R'.output, R'.size, fun k hk => R'.frame k hk fun h => h⟩
  refine ⟨?_, hb⟩
  subst he hcv
  -- one result
  have hrs : rs = [.b t] := by
    match rs, hr with
    | [], hr => cases hr
    | [x], hr => simp only [one] at hr; subst hr; rfl
    | x :: y :: r, hr => cases hr
  subst hrs
  have hg := (toRets_of hret).get
  match raws, cvs, hg.1, hlen, hraws, hg.2 with
  | [x], [c], _, _, hraws, hg2 =>
    have hx := hraws 0 (by simp) (by simp)
    obtain ⟨_, _, r1, _⟩ := hg2 0 (by simp) (by simp)
    simp only [List.getElem_cons_zero] at hx r1
    have : x = .b t := by
      cases r1
      rfl
    subst this
    rw [vrep_bool hx]; rfl

end Zab

