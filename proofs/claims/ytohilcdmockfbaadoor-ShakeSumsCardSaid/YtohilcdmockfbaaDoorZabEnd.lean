/- From code to calls: a law's call answers what its code says. No statement of the program stands here. -/
import Derived.Test.YtohilcdmockfbaaDoorZabCode
import Derived.Test.YtohilcdmockfbaaDoorZabLim
namespace Zab
open Go
set_option linter.unusedVariables false

theorem CallSound.FF {E : Env} {tab : Nat → Option AFun} (h : ∀ n, CallSound E (evF tab n)) : CallSound E (FF tab) :=
  ⟨fun f args r hr => by obtain ⟨n, hn⟩ := FF_inv hr; exact (h n).body f args r hn,
   fun f args r hr => by obtain ⟨n, hn⟩ := FF_inv hr; exact (h n).calls f args r hn⟩

def noOps : List AV → Bool
  | [] => true
  | .op _ :: _ => false
  | _ :: r => noOps r

theorem noOps_get : ∀ {l : List AV}, noOps l = true → ∀ (j : Nat) (cs : List AV), l[j]? ≠ some (.op cs)
  | [], h, j, cs => by simp
  | x :: r, h, 0, cs => by
    cases x <;> first | (simp; done) | simp [noOps] at h
  | x :: r, h, j + 1, cs => by
    rw [List.getElem?_cons_succ]
    exact noOps_get (l := r) (by cases x <;> first | exact h | simp [noOps] at h) j cs

/-- A LAW's CALL: arguments by value; one plain value back; nothing old is turned. -/
theorem law_calls {E : Env} {sents : List Nat} {tab : Nat → Option AFun} (hE : EnvOk E sents)
    (htab : ∀ f F, tab f = some F → ∃ fn x, E.P.funcs[f]? = some fn ∧ cFun E.P E.T sents x fn = some F)
    {f : Nat} {args : List AV} {t : Bool} (h : FF tab f args = some ⟨.b t, []⟩) {W : World} {cargs : Array Value} (hG : GOk E W) (hn : noOps args = true) (hsz : cargs.size = args.length)
    (hv : ∀ j (h1 : j < args.length) (h2 : j < cargs.size), VRep E args.length W (fun b => b < W.heap.size) (fun _ => 0) (fun _ => 0) args[j] cargs[j]) :
    Calls E.P f cargs W fun e W' => e = .returned (.bool t) ∧ RowKit.Below W.heap.size W W' := by
  have hl : ∀ d, look (enterL 0 args) d = none := by
    intro d
    rw [look_enterL]
    split
    · split
      · rename_i cs h; exact absurd h (noOps_get hn _ _)
      · rfl
    · rfl
  have live : ∀ d, ¬ Live (enterL 0 args) (fun _ => 0) d := fun d hd => hd.1 (hl d)
  have R : Rel ⟨E, W, fun _ => False, fun _ => False, args.length, cargs.size, fun _ => 0, fun _ => 0⟩ (fun _ => 0) (fun _ => 0) ⟨enterS 0 args, enterL 0 args⟩ ⟨cargs, []⟩ W := by
    refine { slot := fun i => ?_, row := fun d cs h => ?_, inj := fun d e h => (live d h).elim, own := fun d h => (live d h).elim, arg := fun d _ h => (h (hl d)).elim, glob := hG, frame := fun _ _ _ => rfl, size := Nat.le_refl _, os := rfl, tape := rfl, output := rfl, defers := rfl, tsz := rfl, xlt := fun _ h => h.elim }
    · show VRep E args.length W _ _ _ (get (enterS 0 args) i) (cargs.getD i undef)
      rw [get_enterS]
      simp only [Nat.zero_le, if_true, Nat.sub_zero]
      by_cases hi : i < args.length
      · have h2 : i < cargs.size := by omega
        have h0 := (hv i hi h2).mono (N' := Still ⟨E, W, fun _ => False, fun _ => False, args.length, cargs.size, fun _ => 0, fun _ => 0⟩ (fun _ => 0) (fun _ => 0) (enterL 0 args) W) (A' := fun _ => 0) (K' := fun _ => 0)
          (fun b hb => ⟨hb, fun hx => hx, fun d hd => (live d hd).elim⟩) (fun _ _ => rfl) (fun _ _ => ⟨rfl, rfl⟩)
        have e1 : cargs.getD i undef = cargs[i] := by simp [Array.getD_eq_getD_getElem?, h2]
        have hno := noOps_get hn i
        rw [e1]
        rw [List.getElem?_eq_getElem hi] at hno ⊢
        generalize args[i] = x at h0 hno ⊢
        cases x <;> first | exact h0 | exact absurd rfl (hno _)
      · rw [List.getElem?_eq_none (by omega)]
        exact .one (.gone _)
    · rw [hl d] at h; cases h
  refine ((CallSound.FF (fun_sound hE htab)).calls f args _ h W _ _ _ _ cargs R hsz).mono fun e W' ⟨cv, he, S, a, A', K', nt, raws, rs, cvs, R', hlen, hraws, hret, _, hr, hcv⟩ => ?_
  have hb : RowKit.Below W.heap.size W W' := ⟨R'.os, R'.tape, R'.output, R'.size, fun k hk => R'.frame k hk fun h => h⟩
  refine ⟨?_, hb⟩
  subst he hcv
  -- one result
  have hrs : rs = [.b t] := by
    match rs, hr with
    | [], hr => cases hr
    | [x], hr => simp only [one] at hr; subst hr; rfl
    | x :: y :: r, hr => cases hr
  subst hrs
  match raws, hret with
  | [], hret => cases hret
  | x :: raws, hret =>
    simp only [toRets] at hret
    split at hret <;> first | (cases hret; done) | skip
    rename_i v vs h1 h2
    cases hret
    cases raws with
    | cons y raws =>
      simp only [toRets] at h2
      split at h2 <;> cases h2
    | nil =>
      match cvs, hlen with
      | [c], _ =>
        have hx := hraws 0 (by simp) (by simp)
        simp only [List.getElem_cons_zero] at hx
        have : x = .b t := by
          cases x <;> simp only [toRet] at h1 <;> first
            | (cases h1; done)
            | (simp only [Option.some.injEq] at h1; exact h1)
            | skip
          · split at h1 <;> first | (cases h1; done) | skip
            simp only [Bool.cond_eq_ite] at h1
            repeat' (split at h1)
            all_goals cases h1
          · split at h1 <;> first | (cases h1; done) | skip
            simp only [Bool.cond_eq_ite] at h1
            repeat' (split at h1)
            all_goals cases h1
          · split at h1 <;> first | (cases h1; done) | skip
            all_goals (rename_i heq; cases heq)
        subst this
        rw [vrep_bool hx]; rfl

end Zab
