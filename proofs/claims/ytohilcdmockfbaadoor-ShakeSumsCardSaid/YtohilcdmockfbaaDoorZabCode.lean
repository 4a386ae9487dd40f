/- Code, and functions. No statement of the program stands here. -/
import Derived.Test.YtohilcdmockfbaaDoorZabReg
import Derived.LoopN
namespace Zab
open Go
set_option linter.unusedSimpArgs false
set_option linter.unusedVariables false

def exC : Ex → Exit
  | .normal => .normal
  | .ret => .ret
  | .exit id => .exit id

section
variable {C : Ctx}

theorem iter_sound {c : Code} {f : St → Option (Ex × St)} (hf : ∀ {ex : Ex} {S1 S : St} {A K : Nat → Nat} {a : Act} {w : World}, Rel C A K S a w → f S = some (ex, S1) → ∀ Q, (∀ A' K' a' w', Rel C A' K' S1 a' w' → Q (exC ex) a' w') → c.wp C.E.P Q a w)
    {Q : Exit → Act → World → Prop} {ex : Ex} {Sf : St} (hQ : ∀ A' K' a' w', Rel C A' K' Sf a' w' → Q (exC ex) a' w') : ∀ (n : Nat) {S : St} {A K : Nat → Nat} {a : Act} {w : World}, Rel C A K S a w → iter f n S = some (ex, Sf) → Code.rounds C.E.P c Q n a w
  | 0, S, A, K, a, w, R, h => by simp [iter] at h
  | n + 1, S, A, K, a, w, R, h => by
    simp only [iter] at h
    rw [rounds_succ]
    cases hs : f S with
    | none => simp [hs] at h
    | some p =>
      obtain ⟨e1, S1⟩ := p
      refine hf R hs _ fun A' K' a' w' R' => ?_
      rw [hs] at h
      cases e1 with
      | normal => exact iter_sound hf hQ n R' h
      | ret => cases h; exact hQ _ _ _ _ R'
      | exit id => cases h; exact hQ _ _ _ _ R'

theorem code_sound {I : Info} (hI : Same I C) (hE : EnvOk C.E I.sents) {call : CallF} (hC : CallSound C.E call) (n : Nat) : ∀ (c : Code) (h : Heads) (ac : AC) (h' : Heads), cCode I c h = some (ac, h') →
    ∀ (ex : Ex) (Sf S : St) (A K : Nat → Nat) (a : Act) (w : World), Rel C A K S a w → evC call n ac S = some (ex, Sf) → ∀ Q, (∀ A' K' a' w', Rel C A' K' Sf a' w' → Q (exC ex) a' w') → c.wp C.E.P Q a w
  | .skip, h, ac, h', hc => by
    simp only [cCode, Option.some.injEq, Prod.mk.injEq] at hc
    obtain ⟨rfl, _⟩ := hc
    intro ex Sf S A K a w R he Q hQ
    simp only [evC, Option.some.injEq, Prod.mk.injEq] at he
    obtain ⟨rfl, rfl⟩ := he
    exact wp_skip (hQ _ _ _ _ R)
  | .ret, h, ac, h', hc => by
    simp only [cCode, Option.some.injEq, Prod.mk.injEq] at hc
    obtain ⟨rfl, _⟩ := hc
    intro ex Sf S A K a w R he Q hQ
    simp only [evC, Option.some.injEq, Prod.mk.injEq] at he
    obtain ⟨rfl, rfl⟩ := he
    exact wp_ret (hQ _ _ _ _ R)
  | .exit id, h, ac, h', hc => by
    simp only [cCode, Option.some.injEq, Prod.mk.injEq] at hc
    obtain ⟨rfl, _⟩ := hc
    intro ex Sf S A K a w R he Q hQ
    simp only [evC, Option.some.injEq, Prod.mk.injEq] at he
    obtain ⟨rfl, rfl⟩ := he
    exact wp_exit (hQ _ _ _ _ R)
  | .region id ops draw, h, ac, h', hc => by
    simp only [cCode] at hc
    split at hc <;> first | (cases hc; done) | skip
    rename_i l hl
    simp only [Bool.cond_eq_ite] at hc
    split at hc <;> first | (cases hc; done) | skip
    rename_i hd
    intro ex Sf S A K a w R he Q hQ
    have reg : ∀ {S : St}, Rel C A K S a w → evC call n (.reg l) S = some (ex, Sf) → (Code.region id ops draw).wp C.E.P Q a w := by
      intro S R he
      simp only [evC] at he
      split at he <;> first | (cases he; done) | skip
      rename_i S1 hs
      cases he
      exact region_sound hI hE hC hl hd R hs hQ
    split at hc
    · cases hc
      simp only [evC] at he
      split at he <;> first | (cases he; done) | skip
      rename_i S1 hs
      exact reg ((Rel.freezes _ R hs).clean _ _) he
    · cases hc
      exact reg R he
  | .seq x y, h, ac, h', hc => by
    simp only [cCode] at hc
    split at hc <;> first | (cases hc; done) | skip
    rename_i ax h1 hx
    split at hc <;> first | (cases hc; done) | skip
    rename_i ay h2 hy
    cases hc
    intro ex Sf S A K a w R he Q hQ
    simp only [evC] at he
    refine wp_seq ?_
    cases hs : evC call n ax S with
    | none => simp [hs] at he
    | some p =>
      obtain ⟨e1, S1⟩ := p
      refine code_sound hI hE hC n x h ax h1 hx _ _ _ _ _ _ _ R hs _ fun A' K' a' w' R' => ?_
      rw [hs] at he
      cases e1 with
      | normal => exact code_sound hI hE hC n y h1 ay _ hy _ _ _ _ _ _ _ R' he Q hQ
      | ret => cases he; exact hQ _ _ _ _ R'
      | exit id => cases he; exact hQ _ _ _ _ R'
  | .cond c x y, h, ac, h', hc => by
    simp only [cCode] at hc
    split at hc <;> first | (cases hc; done) | skip
    rename_i ax h1 hx
    split at hc <;> first | (cases hc; done) | skip
    rename_i ay h2 hy
    cases hc
    intro ex Sf S A K a w R he Q hQ
    simp only [evC] at he
    split at he <;> first | (cases he; done) | skip
    rename_i t ht
    have hv := R.eval c
    rw [ht] at hv
    refine wp_cond (vrep_bool hv) ?_
    cases t
    · exact code_sound hI hE hC n y h1 ay _ hy _ _ _ _ _ _ _ R he Q hQ
    · exact code_sound hI hE hC n x h ax _ hx _ _ _ _ _ _ _ R he Q hQ
  | .block id x, h, ac, h', hc => by
    simp only [cCode] at hc
    split at hc <;> first | (cases hc; done) | skip
    rename_i ax h1 hx
    cases hc
    intro ex Sf S A K a w R he Q hQ
    simp only [evC] at he
    split at he <;> first | (cases he; done) | skip
    rename_i e1 S1 hs
    cases he
    refine wp_block (code_sound hI hE hC n x h ax _ hx _ _ _ _ _ _ _ R hs _ fun A' K' a' w' R' => ?_)
    cases e1 with
    | normal => exact hQ _ _ _ _ R'
    | ret => exact hQ _ _ _ _ R'
    | exit j =>
      have := hQ _ _ _ _ R'
      simp only [Ex.unblock] at this
      show Exit.inBlock id Q (.exit j) a' w'
      simp only [Exit.inBlock]
      by_cases hj : j = id
      · subst hj; rw [if_pos rfl]; rw [Nat.beq_refl] at this; exact this
      · rw [if_neg hj]
        have hb : Nat.beq j id = false := by rw [← Bool.not_eq_true, Nat.beq_eq]; exact hj
        rw [hb] at this; exact this
  | .loop x, h, ac, h', hc => by
    match h, hc with
    | (ks, kr) :: h, hc =>
      simp only [cCode] at hc
      split at hc <;> first | (cases hc; done) | skip
      rename_i ax h1 hx
      cases hc
      intro ex Sf S A K a w R he Q hQ
      simp only [evC] at he
      refine wp_loop_rounds n (iter_sound (fun {ex S1 S A K a w} R hf Q hQ => ?_) hQ n R he)
      exact code_sound hI hE hC n x h ax _ hx _ _ _ _ _ _ _ (R.clean ks kr) hf Q hQ
    | [], hc => simp [cCode] at hc
  | .rangeFunc .., h, ac, h', hc => by simp [cCode] at hc
  | .scope .., h, ac, h', hc => by simp [cCode] at hc
  | .label .., h, ac, h', hc => by simp [cCode] at hc
  | .goto .., h, ac, h', hc => by simp [cCode] at hc
  | .refuse .., h, ac, h', hc => by simp [cCode] at hc

/-- One result, read. -/
def resC (tmps : Array Value) : ResultVar → Sem Value
  | .tmp t => pure (tmps.getD t undef)
  | .cell x t => do loadVar t (← asAddr (tmps.getD x undef))

/-- Results, read. -/
theorem resL_sound {A K : Nat → Nat} {S : St} {a : Act} {w : World} (R : Rel C A K S a w) : ∀ {rs : List ResultVar} {ars : List ARes} {raws : List AV}, cRes C.E.P rs = some ars → resL S ars = some raws →
    ∃ cvs : List Value, (rs.mapM (resC a.tmps)).run C.E.P w = Result.ok cvs w ∧ raws.length = cvs.length ∧
      ∀ j (h1 : j < raws.length) (h2 : j < cvs.length), VRep C.E C.np w (Still C A K S.l w) A K raws[j] cvs[j]
  | [], ars, raws, hc, hr => by
    simp only [cRes, Option.some.injEq] at hc; subst hc
    simp only [resL, Option.some.injEq] at hr; subst hr
    exact ⟨[], by simp, rfl, fun j h => by simp at h⟩
  | .tmp t :: rs, ars, raws, hc, hr => by
    simp only [cRes] at hc
    split at hc <;> first | (cases hc; done) | skip
    rename_i l hl
    cases hc
    simp only [resL, resV] at hr
    split at hr <;> first | (cases hr; done) | skip
    rename_i v vs h1 h2
    cases hr
    cases h1
    obtain ⟨cvs, p1, p2, p3⟩ := resL_sound R hl h2
    refine ⟨a.tmps.getD t undef :: cvs, ?_, by simp [p2], fun j h1 h2 => ?_⟩
    · rw [List.mapM_cons, Sem.run_bind]; simp only [resC, Sem.run_bind, Sem.run_pure, Result.andThen_ok, p1]
    · cases j with
      | zero => exact R.slot t
      | succ j => exact p3 j (by simpa using h1) (by simpa using h2)
  | .cell x t :: rs, ars, raws, hc, hr => by
    simp only [cRes] at hc
    split at hc <;> first | (cases hc; done) | skip
    rename_i m l hm hl
    cases hc
    simp only [resL] at hr
    split at hr <;> first | (cases hr; done) | skip
    rename_i v vs h1 h2
    cases hr
    obtain ⟨cvs, p1, p2, p3⟩ := resL_sound R hl h2
    have hx := R.slot x
    have key : ∃ u, (resC a.tmps (.cell x t)).run C.E.P w = Result.ok u w ∧ VRep C.E C.np w (Still C A K S.l w) A K v u := by
      simp only [resV] at h1
      split at h1 <;> first | (cases h1; done) | skip
      · rename_i d off hX
        rw [hX] at hx
        split at h1 <;> first | (cases h1; done) | skip
        rename_i cs hl
        have hrow := R.row d cs hl
        have hv := vrep_rf hx
        by_cases hk : 0 < K d
        · obtain ⟨cc, e, q1, q2, q3⟩ := hrow.list hk
          obtain ⟨u, hu, hr⟩ := read_sound (w := w) (E := C.E) (np := C.np) (A := A) (K := K) (N := Still C A K S.l w) (b := A d) (f := fun j => (cc.take cs.length).getD j undef) hm (fun j hj => by
            rw [cell_of q1]
            have hj' : j < (cc.take cs.length).length := by rw [← q3.1]; exact hj
            simp only [List.length_take] at hj'
            simp [hj, show j < cc.length by omega]) (fun j hj => by
            have hj' : j < (cc.take cs.length).length := by rw [← q3.1]; exact hj
            have := q3.2 j hj hj'
            simpa [List.getElem?_eq_getElem hj'] using this) h1
          exact ⟨u, by simp [resC, hv, asAddr, hu], hr⟩
        · have : cs = [] := List.length_eq_zero_iff.1 (by have := hrow.le; omega)
          subst this
          obtain ⟨u, hu, hr⟩ := read_sound (w := w) (E := C.E) (np := C.np) (A := A) (K := K) (N := Still C A K S.l w) (b := A d) (f := fun _ => undef) hm (fun j hj => by simp at hj) (fun j hj => by simp at hj) h1
          exact ⟨u, by simp [resC, hv, asAddr, hu], hr⟩
      · rename_i cs off hX
        rw [hX] at hx
        obtain ⟨blk, o', f, hv, hN, hc, h1'⟩ := vrep_el hx
        have ev : ∀ {u : Value}, (loadVar t ⟨blk, o' + off, none⟩).run C.E.P w = .ok u w → (resC a.tmps (.cell x t)).run C.E.P w = Result.ok u w := by
          intro u hu
          simp [resC, hv, asAddr, hu]
        rcases agg_of hm with ⟨rfl, hag⟩ | ⟨n, i, rfl, hi, hs, ⟨d, hu, hd⟩, hag⟩
        · simp only [partV] at h1
          obtain ⟨hj, rfl⟩ := List.getElem?_eq_some_iff.1 h1
          exact ⟨_, ev (by simp [loadVar, hag, hc off hj]), .one (.flat (h1' off hj))⟩
        · simp only [partV] at h1
          cases hb : Nat.ble (off + n) cs.length
          · simp [hb] at h1
          · simp only [hb, cond_true, Option.some.injEq] at h1
            subst h1
            have hle := Nat.le_of_ble_eq_true hb
            refine ⟨.agg ((List.range n).map fun j => f (off + j)).toArray, ev (run_loadVar_mid w blk (o' + off) t _ d (fun j v hv => ?_) hu hd (by simp [hi, hs])), VRep.agL ⟨by simp; omega, fun j p q => ?_⟩⟩
            · obtain ⟨hj, rfl⟩ := List.getElem?_eq_some_iff.1 hv
              simp only [List.length_map, List.length_range] at hj
              have := hc (off + j) (by omega)
              simpa [Nat.add_assoc] using this
            · simp only [List.length_map, List.length_range] at q
              simp only [List.getElem_take, List.getElem_drop, List.getElem_map, List.getElem_range]
              exact h1' _ _
    obtain ⟨u, hu, hv⟩ := key
    refine ⟨u :: cvs, ?_, by simp [p2], fun j h1 h2 => ?_⟩
    · rw [List.mapM_cons, Sem.run_bind, hu]; simp only [Sem.run_bind, Result.andThen_ok, p1, Sem.run_pure]
    · cases j with
      | zero => exact hv
      | succ j => exact p3 j (by simpa using h1) (by simpa using h2)

end

theorem results_run {P : Program} {fn : Func} {tmps : Array Value} {w : World} {cvs : List Value}
    (h : (fn.results.toList.mapM (resC tmps)).run P w = Result.ok cvs w) : (results fn tmps).run P w = Result.ok (oneV cvs) w := by
  have hm : (fn.results.mapM (resC tmps)).run P w = .ok cvs.toArray w := by
    rw [← Array.toArray_toList (xs := fn.results), List.mapM_toArray]
    simp only [Sem.run_map, Array.toArray_toList, h, Result.andThen_ok]
  have e : results fn tmps = (do let vs ← fn.results.mapM (resC tmps); pure (if h : vs.size = 1 then vs[0] else Value.tuple vs)) := by
    unfold results
    congr 1
  rw [e, Sem.run_bind, hm]
  simp only [Result.andThen_ok, Sem.run_pure]
  congr 1
  match cvs with
  | [] => rfl
  | [x] => rfl
  | x :: y :: r => simp [oneV]

/-- ALL FUNCTIONS. -/
theorem fun_sound {E : Env} {sents : List Nat} (hE : EnvOk E sents) {tab : Nat → Option AFun} (htab : ∀ f F, tab f = some F → ∃ fn x, E.P.funcs[f]? = some fn ∧ cFun E.P E.T sents x fn = some F) : ∀ n, CallSound E (evF tab n)
  | 0 => ⟨fun f args r h => by simp [evF] at h, fun f args r h => by simp [evF] at h⟩
  | n + 1 => by
    have ih := fun_sound hE htab n
    have inv : ∀ {f : Nat} {args : List AV} {r : Ret}, evF tab (n + 1) f args = some r → ∃ (F : AFun) (fn : Func) (x : FnAnn) (c : Code) (b : AC) (h' : Heads) (rs : List ARes), tab f = some F ∧ E.P.funcs[f]? = some fn ∧ (fn.name == "runtime.NumGoroutine") = false ∧ fn.body = some c ∧
        cCode ⟨E.P, E.T, sents, x.ann, x.pre, fn.params.size + fn.nfree, fn.ntmps⟩ c x.heads = some (b, h') ∧ cRes E.P fn.results.toList = some rs ∧ fn.params.size + fn.nfree ≤ fn.ntmps ∧ F = ⟨b, fn.params.size + fn.nfree, rs⟩ := by
      intro f args r h
      simp only [evF] at h
      split at h <;> first | (cases h; done) | skip
      rename_i F hF
      obtain ⟨fn, x, h1, h2⟩ := htab f F hF
      unfold cFun at h2
      split at h2 <;> first | (cases h2; done) | skip
      rename_i c hb
      simp only [Bool.cond_eq_ite] at h2
      split at h2 <;> first | (cases h2; done) | skip
      rename_i hn
      split at h2 <;> first | (cases h2; done) | skip
      rename_i b h' rs hc hr
      split at h2 <;> first | (cases h2; done) | skip
      rename_i hle
      cases h2
      exact ⟨_, fn, x, c, b, h', rs, hF, h1, by simpa using hn, hb, hc, hr, Nat.le_of_ble_eq_true hle, rfl⟩
    refine ⟨fun f args r h => ?_, fun f args r h w M X A K cargs R hsz => ?_⟩
    · obtain ⟨F, fn, x, c, b, h', rs, _, h1, h2, h3, _⟩ := inv h
      exact ⟨fn, c, h1, h2, h3⟩
    · obtain ⟨F, fn, x, c, b, h', rs, hF, h1, h2, h3, h4, h5, h6, rfl⟩ := inv h
      simp only [evF, hF] at h
      simp only [Bool.cond_eq_ite] at h
      split at h <;> first | (cases h; done) | skip
      rename_i hnp
      have hnp := Nat.eq_of_beq_eq_true hnp
      refine calls_of_wp h1 h3 ?_
      -- the slots behind the arguments
      have R1 : Rel ⟨E, w, M, X, args.length, fn.ntmps, A, K⟩ A K ⟨enterS 0 args, enterL 0 args⟩ { tmps := cargs ++ Array.replicate (fn.ntmps - cargs.size) undef, defers := [] } w := by
        refine { R with slot := fun i => ?_, tsz := ?_ }
        · have := R.slot i
          have e : (cargs ++ Array.replicate (fn.ntmps - cargs.size) undef).getD i undef = cargs.getD i undef := by
            simp only [Array.getD_eq_getD_getElem?, Array.getElem?_append]
            split
            · rfl
            · rename_i hi
              rw [Array.getElem?_eq_none (xs := cargs) (by omega)]
              simp only [Option.getD_none, Array.getElem?_replicate]
              split <;> rfl
          show VRep _ _ _ _ _ _ _ ((cargs ++ Array.replicate (fn.ntmps - cargs.size) undef).getD i undef)
          rw [e]; exact this
        · show (cargs ++ Array.replicate (fn.ntmps - cargs.size) undef).size = fn.ntmps
          simp; omega
      have main : ∀ (ex : Ex) (Sf : St), evC (evF tab n) n b ⟨enterS 0 args, enterL 0 args⟩ = some (ex, Sf) → (ex = .normal ∨ ex = .ret) → fin ⟨b, fn.params.size + fn.nfree, rs⟩ args Sf = some r →
          c.wp E.P (bodyPost E.P fn fun e w' => ∃ cv, e = .returned cv ∧ Out E w M X A K args r cv w') { tmps := cargs ++ Array.replicate (fn.ntmps - cargs.size) undef, defers := [] } w := by
        intro ex Sf he hex hfin
        refine code_sound (C := ⟨E, w, M, X, args.length, fn.ntmps, A, K⟩) ⟨rfl, rfl, hnp.symm, rfl⟩ hE ih n c x.heads b h' h4 _ _ _ _ _ _ _ R1 he _ fun A' K' a' w' R' => ?_
        unfold fin at hfin
        split at hfin <;> first | (cases hfin; done) | skip
        rename_i raws hraws
        split at hfin <;> first | (cases hfin; done) | skip
        rename_i rets lent hrets hlent
        cases hfin
        obtain ⟨cvs, q1, q2, q3⟩ := resL_sound R' h5 hraws
        have hrun := results_run q1
        have hpost : a'.defers = [] ∧ ∃ v, (results fn a'.tmps).run E.P w' = .ok v w' ∧ ∃ cv, Ending.returned v = .returned cv ∧ Out E w M X A K args ⟨one rets, lent⟩ cv w' :=
          ⟨R'.defers, _, hrun, _, rfl, ⟨⟨Sf, a', A', K', fn.ntmps, raws, rets, cvs, R', q2, q3, by rw [hnp]; exact hrets, hlent, rfl, rfl⟩⟩⟩
        rcases hex with rfl | rfl <;> exact hpost
      cases he : evC (evF tab n) n b ⟨enterS 0 args, enterL 0 args⟩ with
      | none => simp [he] at h
      | some p =>
        obtain ⟨ex, Sf⟩ := p
        rw [he] at h
        cases ex with
        | normal => exact main _ _ he (.inl rfl) h
        | ret => exact main _ _ he (.inr rfl) h
        | exit id => cases h

end Zab
