/- Without rounds: calls and code by their limits; rules for code. No statement of the program stands here. -/
import Derived.Test.YtohilcdmockfbaaDoorZabCode
import Derived.Test.YtohilcdmockfbaaDoorZabDef
namespace Zab
open Go
set_option linter.unusedVariables false

def CallLe (c d : CallF) : Prop := ∀ f xs r, c f xs = some r → d f xs = some r

theorem CallLe.rfl' {c : CallF} : CallLe c c := fun _ _ _ h => h

theorem readV_mono {c d : CallF} (hle : CallLe c d) {ρ : Operand → AV} {l : List (Nat × List AV)} {o : AOp} {v : AV} (h : readV c ρ l o = some v) : readV d ρ l o = some v := by
  cases o with
  | call f xs =>
    simp only [readV] at h ⊢
    split at h <;> first | (cases h; done) | skip
    split at h <;> first | (cases h; done) | skip
    split at h <;> first | (cases h; done) | skip
    rename_i e
    rw [hle _ _ _ e]
    exact h
  | load m x => cases x <;> exact h
  | _ => exact h

theorem stepK_mono {c d : CallF} (hle : CallLe c d) {S : St} {dst : Option Nat} {o : AOp} {S1 : St} (h : stepK c S dst o = some S1) : stepK d S dst o = some S1 := by
  cases o with
  | callK f xs own =>
    simp only [stepK] at h ⊢
    split at h <;> first | (cases h; done) | skip
    split at h <;> first | (cases h; done) | skip
    cases hs : seesAny _ _ <;> rw [hs] at h <;> first | (cases h; done) | skip
    simp only [cond_false] at h ⊢
    split at h <;> first | (cases h; done) | skip
    rename_i e
    rw [hle _ _ _ e]
    exact h
  | _ => exact h

theorem step_mono {c d : CallF} (hle : CallLe c d) {o : AOper} {S S1 : St} (h : step c o S = some S1) : step d o S = some S1 := by
  unfold step at h ⊢
  split at h
  · rename_i hw
    split at h
    · exact h
    · rename_i hc
      cases hr : readV c (evalO S.s) S.l o.op with
      | none => simp [hr] at h
      | some v => rw [hr] at h; rw [readV_mono hle hr]; exact h
    · exact h
    · exact stepK_mono hle h
  · exact h
  · cases h

theorem steps_mono {c d : CallF} (hle : CallLe c d) : ∀ {os : List AOper} {S S1 : St}, steps c os S = some S1 → steps d os S = some S1
  | [], S, S1, h => h
  | o :: r, S, S1, h => by
    simp only [steps] at h ⊢
    split at h <;> first | (cases h; done) | skip
    rename_i S2 e
    rw [step_mono hle e]
    exact steps_mono hle h

theorem iter_mono {f g : St → Option (Ex × St)} (hfg : ∀ S r, f S = some r → g S = some r) : ∀ {n m : Nat}, n ≤ m → ∀ {S : St} {r : Ex × St}, iter f n S = some r → iter g m S = some r
  | 0, m, _, S, r, h => by cases h
  | n + 1, 0, hle, S, r, h => by omega
  | n + 1, m + 1, hle, S, r, h => by
    simp only [iter] at h ⊢
    cases hs : f S with
    | none => rw [hs] at h; cases h
    | some p =>
      rw [hs] at h
      rw [hfg _ _ hs]
      obtain ⟨e, S1⟩ := p
      cases e with
      | normal => exact iter_mono hfg (by omega) h
      | ret => exact h
      | exit id => exact h

theorem evC_mono {c d : CallF} (hle : CallLe c d) {n m : Nat} (hnm : n ≤ m) : ∀ {a : AC} {S : St} {r : Ex × St}, evC c n a S = some r → evC d m a S = some r
  | .skip, S, r, h => h
  | .ret, S, r, h => h
  | .exit id, S, r, h => h
  | .reg ops, S, r, h => by
    simp only [evC] at h ⊢
    split at h <;> first | (cases h; done) | skip
    rename_i S1 e
    rw [steps_mono hle e]; exact h
  | .seq a b, S, r, h => by
    simp only [evC] at h ⊢
    cases hs : evC c n a S with
    | none => rw [hs] at h; cases h
    | some p =>
      rw [hs] at h
      rw [evC_mono hle hnm hs]
      obtain ⟨e, S1⟩ := p
      cases e with
      | normal => exact evC_mono hle hnm h
      | ret => exact h
      | exit id => exact h
  | .cond o a b, S, r, h => by
    simp only [evC] at h ⊢
    split at h <;> first | (cases h; done) | skip
    rename_i t _
    cases t
    · exact evC_mono hle hnm (a := b) h
    · exact evC_mono hle hnm (a := a) h
  | .block id a, S, r, h => by
    simp only [evC] at h ⊢
    split at h <;> first | (cases h; done) | skip
    rename_i e
    rw [evC_mono hle hnm e]; exact h
  | .loop ks kr a, S, r, h => by
    simp only [evC] at h ⊢
    exact iter_mono (fun S r h => evC_mono hle hnm h) hnm h
  | .pre fr ks kr a, S, r, h => by
    simp only [evC] at h ⊢
    split at h <;> first | (cases h; done) | skip
    exact evC_mono hle hnm h

theorem evF_succ {tab : Nat → Option AFun} : ∀ n, CallLe (evF tab n) (evF tab (n + 1))
  | 0 => fun f xs r h => by cases h
  | n + 1 => fun f xs r h => by
    rw [evF] at h ⊢
    split at h <;> first | (cases h; done) | skip
    rename_i A _
    cases hb : Nat.beq xs.length A.np <;> rw [hb] at h <;> first | (cases h; done) | skip
    simp only [cond_true] at h ⊢
    split at h <;> first | (cases h; done) | skip
    all_goals rename_i e; rw [evC_mono (evF_succ n) (by omega) e]; exact h

theorem evF_le {tab : Nat → Option AFun} {n : Nat} : ∀ {m : Nat}, n ≤ m → CallLe (evF tab n) (evF tab m)
  | 0, h => by cases Nat.le_zero.1 h; exact .rfl'
  | m + 1, h => by
    by_cases e : n = m + 1
    · subst e; exact .rfl'
    · exact fun f xs r hr => evF_succ m _ _ _ (evF_le (by omega : n ≤ m) _ _ _ hr)

open Classical in
/-- What a call gives back, with whatever rounds it needs. -/
noncomputable def FF (tab : Nat → Option AFun) : CallF := fun f xs =>
  if h : ∃ r n, evF tab n f xs = some r then some h.choose else none

theorem FF_of {tab : Nat → Option AFun} {n f : Nat} {xs : List AV} {r : Ret} (h : evF tab n f xs = some r) : FF tab f xs = some r := by
  unfold FF
  have h' : ∃ r n, evF tab n f xs = some r := ⟨r, n, h⟩
  rw [dif_pos h']
  obtain ⟨m, hm⟩ := h'.choose_spec
  have h1 := evF_le (Nat.le_max_left n m) _ _ _ h
  have h2 := evF_le (Nat.le_max_right n m) _ _ _ hm
  rw [h1] at h2
  cases h2
  rfl

theorem FF_inv {tab : Nat → Option AFun} {f : Nat} {xs : List AV} {r : Ret} (h : FF tab f xs = some r) : ∃ n, evF tab n f xs = some r := by
  unfold FF at h
  split at h
  · rename_i h'
    obtain ⟨m, hm⟩ := h'.choose_spec
    cases h
    exact ⟨m, hm⟩
  · cases h

theorem evF_FF {tab : Nat → Option AFun} (n : Nat) : CallLe (evF tab n) (FF tab) := fun _ _ _ h => FF_of h

theorem readV_FF {tab : Nat → Option AFun} {ρ : Operand → AV} {l : List (Nat × List AV)} {o : AOp} {v : AV} (h : readV (FF tab) ρ l o = some v) : ∃ n, readV (evF tab n) ρ l o = some v := by
  cases o with
  | call f xs =>
    simp only [readV] at h ⊢
    split at h <;> first | (cases h; done) | skip
    split at h <;> first | (cases h; done) | skip
    split at h <;> first | (cases h; done) | skip
    rename_i e
    obtain ⟨n, hn⟩ := FF_inv e
    exact ⟨n, by rw [hn]; exact h⟩
  | load m x => cases x <;> exact ⟨0, h⟩
  | _ => exact ⟨0, h⟩

theorem stepK_FF {tab : Nat → Option AFun} {S : St} {dst : Option Nat} {o : AOp} {S1 : St} (h : stepK (FF tab) S dst o = some S1) : ∃ n, stepK (evF tab n) S dst o = some S1 := by
  cases o with
  | callK f xs own =>
    simp only [stepK] at h ⊢
    split at h <;> first | (cases h; done) | skip
    split at h <;> first | (cases h; done) | skip
    cases hs : seesAny _ _ <;> rw [hs] at h <;> first | (cases h; done) | skip
    simp only [cond_false] at h ⊢
    split at h <;> first | (cases h; done) | skip
    rename_i e
    obtain ⟨n, hn⟩ := FF_inv e
    exact ⟨n, by rw [hn]; exact h⟩
  | _ => exact ⟨0, h⟩

theorem step_FF {tab : Nat → Option AFun} {o : AOper} {S S1 : St} (h : step (FF tab) o S = some S1) : ∃ n, step (evF tab n) o S = some S1 := by
  unfold step at h ⊢
  split at h
  · rename_i hw
    split at h
    · exact ⟨0, h⟩
    · rename_i hc
      cases hr : readV (FF tab) (evalO S.s) S.l o.op with
      | none => simp [hr] at h
      | some v => rw [hr] at h; obtain ⟨n, hn⟩ := readV_FF hr; exact ⟨n, by rw [hn]; exact h⟩
    · exact ⟨0, h⟩
    · exact stepK_FF h
  · exact ⟨0, h⟩
  · cases h

theorem steps_FF {tab : Nat → Option AFun} : ∀ {os : List AOper} {S S1 : St}, steps (FF tab) os S = some S1 → ∃ n, steps (evF tab n) os S = some S1
  | [], S, S1, h => ⟨0, h⟩
  | o :: r, S, S1, h => by
    simp only [steps] at h ⊢
    split at h <;> first | (cases h; done) | skip
    rename_i S2 e
    obtain ⟨n, hn⟩ := step_FF e
    obtain ⟨m, hm⟩ := steps_FF h
    exact ⟨max n m, by rw [step_mono (evF_le (Nat.le_max_left n m)) hn]; exact steps_mono (evF_le (Nat.le_max_right n m)) hm⟩

theorem evC_FF {tab : Nat → Option AFun} (n : Nat) : ∀ {a : AC} {S : St} {r : Ex × St}, evC (FF tab) n a S = some r → ∃ m, evC (evF tab m) m a S = some r
  | .skip, S, r, h => ⟨0, h⟩
  | .ret, S, r, h => ⟨0, h⟩
  | .exit id, S, r, h => ⟨0, h⟩
  | .reg ops, S, r, h => by
    simp only [evC] at h ⊢
    split at h <;> first | (cases h; done) | skip
    rename_i S1 e
    obtain ⟨n, hn⟩ := steps_FF e
    exact ⟨n, by rw [hn]; exact h⟩
  | .seq a b, S, r, h => by
    simp only [evC] at h ⊢
    cases hs : evC (FF tab) n a S with
    | none => rw [hs] at h; cases h
    | some p =>
      rw [hs] at h
      obtain ⟨m, hm⟩ := evC_FF n hs
      obtain ⟨e, S1⟩ := p
      cases e with
      | normal =>
        obtain ⟨m', hm'⟩ := evC_FF n (a := b) h
        refine ⟨max m m', ?_⟩
        rw [evC_mono (evF_le (Nat.le_max_left m m')) (Nat.le_max_left m m') hm]
        exact evC_mono (evF_le (Nat.le_max_right m m')) (Nat.le_max_right m m') hm'
      | ret => exact ⟨m, by rw [hm]; exact h⟩
      | exit id => exact ⟨m, by rw [hm]; exact h⟩
  | .cond o a b, S, r, h => by
    simp only [evC] at h ⊢
    split at h <;> first | (cases h; done) | skip
    rename_i t _
    cases t
    · exact evC_FF n (a := b) h
    · exact evC_FF n (a := a) h
  | .block id a, S, r, h => by
    simp only [evC] at h ⊢
    split at h <;> first | (cases h; done) | skip
    rename_i e
    obtain ⟨m, hm⟩ := evC_FF n e
    exact ⟨m, by rw [hm]; exact h⟩
  | .loop ks kr a, S, r, h => by
    simp only [evC] at h ⊢
    have key : ∀ k {S : St} {r : Ex × St}, iter (fun S => evC (FF tab) n a (S.clean ks kr)) k S = some r → ∃ m, k ≤ m ∧ iter (fun S => evC (evF tab m) m a (S.clean ks kr)) k S = some r := by
      intro k
      induction k with
      | zero => intro S r h; cases h
      | succ k ih =>
        intro S r h
        simp only [iter] at h ⊢
        cases hs : evC (FF tab) n a (S.clean ks kr) with
        | none => rw [hs] at h; cases h
        | some p =>
          rw [hs] at h
          obtain ⟨m, hm⟩ := evC_FF n hs
          obtain ⟨e, S1⟩ := p
          cases e with
          | normal =>
            obtain ⟨m', hk, hm'⟩ := ih h
            refine ⟨max m (m' + 1), by omega, ?_⟩
            have le1 : m ≤ max m (m' + 1) := by omega
            have le2 : m' ≤ max m (m' + 1) := by omega
            rw [evC_mono (evF_le le1) le1 hm]
            exact iter_mono (fun S r h => evC_mono (evF_le le2) le2 h) (Nat.le_refl k) hm'
          | ret =>
            have le1 : m ≤ max m (k + 1) := by omega
            exact ⟨max m (k + 1), by omega, by rw [evC_mono (evF_le le1) le1 hm]; exact h⟩
          | exit id =>
            have le1 : m ≤ max m (k + 1) := by omega
            exact ⟨max m (k + 1), by omega, by rw [evC_mono (evF_le le1) le1 hm]; exact h⟩
    obtain ⟨m, hk, hm⟩ := key n h
    exact ⟨m, iter_mono (fun S r h => h) hk hm⟩
  | .pre fr ks kr a, S, r, h => by
    simp only [evC] at h ⊢
    split at h <;> first | (cases h; done) | skip
    exact evC_FF n (a := a) h

/-! ### Rules -/

/-- Code ends, and what it leaves is so. -/
def W (F : CallF) (a : AC) (S : St) (Q : Ex → St → Prop) : Prop := ∃ n e S1, evC F n a S = some (e, S1) ∧ Q e S1

section
variable {F : CallF} {S : St} {Q : Ex → St → Prop}

theorem W.mono {a : AC} {Q' : Ex → St → Prop} (h : W F a S Q) (hq : ∀ e S1, Q e S1 → Q' e S1) : W F a S Q' := by
  obtain ⟨n, e, S1, h1, h2⟩ := h
  exact ⟨n, e, S1, h1, hq _ _ h2⟩

theorem w_skip (h : Q .normal S) : W F .skip S Q := ⟨0, _, _, rfl, h⟩
theorem w_ret (h : Q .ret S) : W F .ret S Q := ⟨0, _, _, rfl, h⟩
theorem w_exit {id : Nat} (h : Q (.exit id) S) : W F (.exit id) S Q := ⟨0, _, _, rfl, h⟩

theorem w_reg {ops : List AOper} {S1 : St} (h : steps F ops S = some S1) (hq : Q .normal S1) : W F (.reg ops) S Q :=
  ⟨0, _, _, by simp only [evC, h], hq⟩

/-- What comes after a first piece. -/
def andThen (F : CallF) (b : AC) (Q : Ex → St → Prop) : Ex → St → Prop
  | .normal, S => W F b S Q
  | e, S => Q e S

theorem w_seq {a b : AC} (h : W F a S (andThen F b Q)) : W F (.seq a b) S Q := by
  obtain ⟨n, e, S1, h1, h2⟩ := h
  cases e with
  | normal =>
    obtain ⟨m, e', S2, h3, h4⟩ := h2
    exact ⟨max n m, e', S2, by simp only [evC]; rw [evC_mono .rfl' (Nat.le_max_left n m) h1]; exact evC_mono .rfl' (Nat.le_max_right n m) h3, h4⟩
  | ret => exact ⟨n, _, _, by simp only [evC, h1], h2⟩
  | exit id => exact ⟨n, _, _, by simp only [evC, h1], h2⟩

theorem w_cond {c : Operand} {a b : AC} {t : Bool} (hc : evalO S.s c = .b t) (h : if t = true then W F a S Q else W F b S Q) : W F (.cond c a b) S Q := by
  cases t
  · obtain ⟨n, e, S1, h1, h2⟩ := h
    exact ⟨n, e, S1, by simp only [evC, hc]; exact h1, h2⟩
  · obtain ⟨n, e, S1, h1, h2⟩ := h
    exact ⟨n, e, S1, by simp only [evC, hc]; exact h1, h2⟩

theorem w_block {id : Nat} {a : AC} (h : W F a S fun e S1 => Q (e.unblock id) S1) : W F (.block id a) S Q := by
  obtain ⟨n, e, S1, h1, h2⟩ := h
  exact ⟨n, _, S1, by simp only [evC, h1], h2⟩

theorem w_pre {fr ks kr : List Nat} {a : AC} {S1 : St} (hf : freezes S fr = some S1) (h : W F a (S1.clean ks kr) Q) : W F (.pre fr ks kr a) S Q := by
  obtain ⟨n, e, S2, h1, h2⟩ := h
  exact ⟨n, e, S2, by simp only [evC, hf]; exact h1, h2⟩

/-- One round. -/
theorem w_loop {ks kr : List Nat} {a : AC} (h : W F a (S.clean ks kr) (andThen F (.loop ks kr a) Q)) : W F (.loop ks kr a) S Q := by
  obtain ⟨n, e, S1, h1, h2⟩ := h
  cases e with
  | normal =>
    obtain ⟨m, e', S2, h3, h4⟩ := h2
    simp only [evC] at h3
    refine ⟨max n m + 1, e', S2, ?_, h4⟩
    simp only [evC, iter]
    rw [evC_mono .rfl' (by omega : n ≤ max n m + 1) h1]
    exact iter_mono (fun S r h => evC_mono .rfl' (by omega : m ≤ max n m + 1) h) (by omega) h3
  | ret =>
    refine ⟨n + 1, _, _, ?_, h2⟩
    simp only [evC, iter]
    rw [evC_mono .rfl' (by omega : n ≤ n + 1) h1]
  | exit id =>
    refine ⟨n + 1, _, _, ?_, h2⟩
    simp only [evC, iter]
    rw [evC_mono .rfl' (by omega : n ≤ n + 1) h1]

/-- Rounds, by what holds at their heads and grows less. -/
theorem w_rounds {ks kr : List Nat} {a : AC} {I : Nat → St → Prop} (hI : ∀ m S, I m S → W F a (S.clean ks kr) fun e S1 => match e with | .normal => ∃ m', m' < m ∧ I m' S1 | e => Q e S1) {m : Nat} (h : I m S) : W F (.loop ks kr a) S Q := by
  induction m using Nat.strongRecOn generalizing S with
  | _ m ih =>
    refine w_loop ((hI m S h).mono fun e S1 h1 => ?_)
    cases e with
    | normal => obtain ⟨m', hm, hi⟩ := h1; exact ih m' hm hi
    | ret => exact h1
    | exit id => exact h1

end

/-- A call, by its function's code. -/
theorem call_of {tab : Nat → Option AFun} {f : Nat} {A : AFun} {xs : List AV} {r : Ret} (hA : tab f = some A) (hn : xs.length = A.np)
    (h : W (FF tab) A.body ⟨enterS 0 xs, enterL 0 xs⟩ fun e S => (match e with | .exit _ => False | _ => True) ∧ fin A xs S = some r) : FF tab f xs = some r := by
  obtain ⟨n, e, S1, h1, h2, h3⟩ := h
  obtain ⟨m, hm⟩ := evC_FF n h1
  refine FF_of (n := m + 1) ?_
  simp only [evF, hA]
  rw [show Nat.beq xs.length A.np = true by rw [hn]; exact Nat.beq_refl _]
  simp only [cond_true]
  rw [hm]
  cases e with
  | normal => exact h3
  | ret => exact h3
  | exit id => exact h2.elim

end Zab
