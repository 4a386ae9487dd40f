/- Equations by which code is stepped through. No statement of the program stands here. -/
import Derived.Test.YtohilcdmockfbaaDoorZabEnd
import Derived.Test.YtohilcdmockfbaaDoorZabLim
import Derived.IntWalk
namespace Zab
open Go
set_option linter.unusedVariables false

theorem get_nil (i : Nat) : get [] i = .gone := rfl
theorem get_cons (j : Nat) (v : AV) (r : List (Nat × AV)) (i : Nat) : get ((j, v) :: r) i = if j = i then v else get r i := by
  simp only [get, Bool.cond_eq_ite, Nat.beq_eq]
theorem look_nil (i : Nat) : look [] i = none := rfl
theorem look_cons (j : Nat) (v : List AV) (r : List (Nat × List AV)) (i : Nat) : look ((j, v) :: r) i = if j = i then some v else look r i := by
  simp only [look, Bool.cond_eq_ite, Nat.beq_eq]
theorem put_nil {α : Type} (i : Nat) (v : α) : put [] i v = [(i, v)] := rfl
theorem put_cons {α : Type} (j : Nat) (u : α) (r : List (Nat × α)) (i : Nat) (v : α) : put ((j, u) :: r) i v = if j < i then (i, v) :: (j, u) :: r else if i = j then (i, v) :: r else (j, u) :: put r i v := by
  simp only [put, Bool.cond_eq_ite, Nat.beq_eq, Nat.blt_eq]
theorem del_nil {α : Type} (i : Nat) : del ([] : List (Nat × α)) i = [] := rfl
theorem del_cons {α : Type} (j : Nat) (u : α) (r : List (Nat × α)) (i : Nat) : del ((j, u) :: r) i = if j = i then del r i else (j, u) :: del r i := by
  simp only [del, Bool.cond_eq_ite, Nat.beq_eq]
theorem memb_nil (i : Nat) : memb [] i = false := rfl
theorem memb_cons (j : Nat) (r : List Nat) (i : Nat) : memb (j :: r) i = if j = i then true else memb r i := by
  simp only [memb]; by_cases h : j = i
  · subst h; simp [Nat.beq_refl]
  · have : Nat.beq j i = false := by rw [← Bool.not_eq_true, Nat.beq_eq]; exact h
    simp [this, h]
theorem keepS_nil (s : List (Nat × AV)) : keepS [] s = [] := rfl
theorem keepS_cons (k : Nat) (r : List Nat) (s : List (Nat × AV)) : keepS (k :: r) s = (k, get s k) :: keepS r s := rfl
theorem keepL_nil (l : List (Nat × List AV)) : keepL [] l = [] := rfl
theorem keepL_cons (k : Nat) (r : List Nat) (l : List (Nat × List AV)) : keepL (k :: r) l = match look l k with | some cs => (k, cs) :: keepL r l | none => keepL r l := rfl

/-! ### Steps -/

/-- Beside an argument that is to stay as it is while a term is simplified. -/
def Tg {α : Sort _} (_ : α) : Type := Unit
def Tg2 {α : Sort _} {β : Sort _} (_ : α) (_ : β) : Type := Unit

/-- A value, put; whatever comes behind a state, if there is one. -/
def optPut (S : St) (dst : Option Nat) (_ : Tg2 S dst) (v : Option AV) : Option St := v.map (S.putD dst)
def optMem (s : List (Nat × AV)) (_ : Tg s) (l : Option (List (Nat × List AV))) : Option St := l.map fun l => ⟨s, l⟩
def onG (want : Bool) (a b : Option St) (_ : Tg2 a b) (g : AV) : Option St :=
  match g with
  | .b x => if x = want then a else b
  | .gone => none
  | _ => b
def onSome (p : St → Prop) (_ : Tg p) (o : Option St) : Prop := ∃ S, o = some S ∧ p S
def onB (p q : Prop) (_ : Tg2 p q) (v : AV) : Prop := ∃ t, v = .b t ∧ if t = true then p else q
def stepsAt (call : CallF) (r : List AOper) (_ : Tg2 call r) (o : Option St) : Option St := o.bind (steps call r)
/-- Code that is not stepped through by equations. -/
def HoldW (F : CallF) (a : AC) (S : St) (Q : Ex → St → Prop) (_ : Tg2 F a) (_ : Tg2 S Q) : Prop := W F a S Q

theorem optPut_some (s : List (Nat × AV)) (l : List (Nat × List AV)) (d : Nat) (v : AV) : optPut ⟨s, l⟩ (some d) () (some v) = some ⟨put s d v, l⟩ := rfl
theorem optMem_some (s : List (Nat × AV)) (l : List (Nat × List AV)) : optMem s () (some l) = some ⟨s, l⟩ := rfl
theorem onG_b {x want : Bool} {a b : Option St} : onG want a b () (.b x) = if x = want then a else b := rfl
theorem onG_tt {a b : Option St} : onG true a b () (.b true) = a := rfl
theorem onG_tf {a b : Option St} : onG false a b () (.b true) = b := rfl
theorem onG_ft {a b : Option St} : onG true a b () (.b false) = b := rfl
theorem onG_ff {a b : Option St} : onG false a b () (.b false) = a := rfl
theorem onG_un {want : Bool} {a b : Option St} : onG want a b () .un = b := rfl
theorem onSome_some {S : St} {p : St → Prop} : onSome p () (some S) = p S := by simp [onSome]
theorem onB_true {p q : Prop} : onB p q () (.b true) = p := by simp [onB]
theorem onB_false {p q : Prop} : onB p q () (.b false) = q := by simp [onB]
theorem stepsAt_some {S : St} {call : CallF} {r : List AOper} : stepsAt call r () (some S) = steps call r S := rfl

theorem onB_of {c : Prop} [Decidable c] {p q : Prop} (h1 : c → p) (h2 : ¬ c → q) : onB p q () (.b (decide c)) := by
  by_cases h : c
  · exact ⟨true, by simp [h], by simpa using h1 h⟩
  · exact ⟨false, by simp [h], by simpa using h2 h⟩
theorem onB_by {t : Bool} {p q : Prop} (h1 : t = true → p) (h2 : t = false → q) : onB p q () (.b t) := by
  cases t
  · exact ⟨false, rfl, by simpa using h2 rfl⟩
  · exact ⟨true, rfl, by simpa using h1 rfl⟩

section
variable (call : CallF) (S : St)

theorem steps_nil : steps call [] S = some S := rfl
theorem steps_cons (o : AOper) (r : List AOper) : steps call (o :: r) S = stepsAt call r () (step call o S) := by
  simp only [steps, stepsAt]; cases step call o S <;> rfl

theorem step_some (dst : Option Nat) (op : AOp) (t : Nat) (want : Bool) : step call ⟨dst, op, some (t, want)⟩ S = onG want (step call ⟨dst, op, none⟩ S) (some (S.putD dst .un)) () (get S.s t) := by
  unfold step; simp only [wants, onG]
  cases get S.s t <;> try rfl
  rename_i x
  cases x <;> cases want <;> rfl

variable (dst : Option Nat)
theorem st_move (x : Operand) : step call ⟨dst, .move x, none⟩ S = optPut S dst () (some (evalO S.s x)) := rfl
theorem st_pick (c x y : Operand) : step call ⟨dst, .pick c x y, none⟩ S = optPut S dst () (match evalO S.s c with | .b t => some (bif t then evalO S.s x else evalO S.s y) | _ => none) := rfl
theorem st_bin (ek : EqKind) (op : BinOp) (x y : Operand) : step call ⟨dst, .bin ek op x y, none⟩ S = optPut S dst () (binV ek op (evalO S.s x) (evalO S.s y)) := rfl
theorem st_un (op : UnOp) (x : Operand) : step call ⟨dst, .un op x, none⟩ S = optPut S dst () (unV op (evalO S.s x)) := rfl
def convV (k : IntKind) : AV → Option AV | .i _ n => some (.i k (k.wrap n)) | _ => none
theorem convV_i (k k' : IntKind) (n : Int) : convV k (.i k' n) = some (.i k (k.wrap n)) := rfl
theorem st_conv (k : IntKind) (x : Operand) : step call ⟨dst, .conv k x, none⟩ S = optPut S dst () (convV k (evalO S.s x)) := by
  simp only [step, wants, AOp.cls, pureV, optPut, convV]; cases evalO S.s x <;> rfl
def addrV (off : Nat) : AV → Option AV | .rf d o => some (.rf d (o + off)) | .el cs o => some (.el cs (o + off)) | _ => none
theorem st_addr (off : Nat) (x : Operand) : step call ⟨dst, .addr off x, none⟩ S = optPut S dst () (addrV off (evalO S.s x)) := by
  simp only [step, wants, AOp.cls, pureV, optPut, addrV]; cases evalO S.s x <;> rfl
theorem st_ixA (len sz : Nat) (x i : Operand) : step call ⟨dst, .ixA len sz x i, none⟩ S = optPut S dst () (pureV (evalO S.s) (.ixA len sz x i)) := rfl
theorem st_ixS (sz : Nat) (x i : Operand) : step call ⟨dst, .ixS sz x i, none⟩ S = optPut S dst () (pureV (evalO S.s) (.ixS sz x i)) := rfl
theorem st_fld (off : Nat) (m : Option Nat) (x : Operand) : step call ⟨dst, .fld off m x, none⟩ S = optPut S dst () (pureV (evalO S.s) (.fld off m x)) := rfl
theorem st_ixV (len sz : Nat) (m : Option Nat) (x i : Operand) : step call ⟨dst, .ixV len sz m x i, none⟩ S = optPut S dst () (pureV (evalO S.s) (.ixV len sz m x i)) := rfl
theorem st_ixStr (x i : Operand) : step call ⟨dst, .ixStr x i, none⟩ S = optPut S dst () (pureV (evalO S.s) (.ixStr x i)) := rfl
theorem st_ext (j : Nat) (x : Operand) : step call ⟨dst, .ext j x, none⟩ S = optPut S dst () (match evalO S.s x with | .tp l => l[j]? | _ => none) := rfl
theorem st_build (zero : List AV) (parts : List (Nat × Nat × Operand)) : step call ⟨dst, .build zero parts, none⟩ S = optPut S dst () (pureV (evalO S.s) (.build zero parts)) := rfl
theorem st_bsl (n : Nat) (zero : List AV) (parts : List (Nat × Nat × Operand)) : step call ⟨dst, .bsl n zero parts, none⟩ S = optPut S dst () (pureV (evalO S.s) (.bsl n zero parts)) := rfl
theorem st_mkS (zero : List AV) (bytes : Nat) (l c : Operand) : step call ⟨dst, .mkS zero bytes l c, none⟩ S = optPut S dst () (pureV (evalO S.s) (.mkS zero bytes l c)) := rfl
theorem st_mkfn (f : Nat) (l : List Operand) : step call ⟨dst, .mkfn f l, none⟩ S = optPut S dst () (pureV (evalO S.s) (.mkfn f l)) := rfl
theorem st_len (b : Bool) (x : Operand) : step call ⟨dst, .len b x, none⟩ S = optPut S dst () (pureV (evalO S.s) (.len b x)) := rfl
theorem st_mn (l : List Operand) : step call ⟨dst, .mn l, none⟩ S = optPut S dst () (pureV (evalO S.s) (.mn l)) := rfl
theorem st_mx (l : List Operand) : step call ⟨dst, .mx l, none⟩ S = optPut S dst () (pureV (evalO S.s) (.mx l)) := rfl
theorem st_nilChk (x : Operand) : step call ⟨dst, .nilChk x, none⟩ S = optPut S dst () (pureV (evalO S.s) (.nilChk x)) := rfl
theorem st_tas (zero : AV) (x : Operand) : step call ⟨dst, .tas zero x, none⟩ S = optPut S dst () (pureV (evalO S.s) (.tas zero x)) := rfl
theorem st_slc (sz : Nat) (x : Operand) (lo hi mx : Option Operand) : step call ⟨dst, .slc sz x lo hi mx, none⟩ S = optPut S dst () (slcV sz (evalO S.s x) (lo.map (evalO S.s)) (hi.map (evalO S.s)) (mx.map (evalO S.s))) := rfl
theorem st_load (m : Option Nat) (x : Operand) : step call ⟨dst, .load m x, none⟩ S = optPut S dst () (readV call (evalO S.s) S.l (.load m x)) := rfl
theorem st_call (f : Nat) (l : List Operand) : step call ⟨dst, .call (.func f) l, none⟩ S = optPut S dst () (match toArgs S.l (evalL (evalO S.s) l) with
       | some vs =>
         (match call f vs with
          | some ⟨r, []⟩ => bif anyRs (evalL (evalO S.s) l) && hasSl r then none else fromRet r
          | _ => none)
       | none => none) := rfl
theorem st_store (sz : Nat) (x v : Operand) : step call ⟨dst, .store sz x v, none⟩ S = optMem S.s () (writeV (evalO S.s) S.l (.store sz x v)) := rfl
theorem st_box (sz : Nat) (v : Operand) : step call ⟨dst, .box sz v, none⟩ S = stepK call S dst (.box sz v) := rfl
theorem st_alloc (zero : List AV) : step call ⟨dst, .alloc zero, none⟩ S = stepK call S dst (.alloc zero) := rfl
theorem st_mkR (zero : List AV) (bytes : Nat) (l c : Operand) : step call ⟨dst, .mkR zero bytes l c, none⟩ S = stepK call S dst (.mkR zero bytes l c) := rfl
theorem st_bslR (n : Nat) (zero : List AV) (parts : List (Nat × Nat × Operand)) : step call ⟨dst, .bslR n zero parts, none⟩ S = stepK call S dst (.bslR n zero parts) := rfl
theorem st_nilR (sz : Nat) (x : Operand) : step call ⟨dst, .nilR sz x, none⟩ S = stepK call S dst (.nilR sz x) := rfl
theorem st_app (sz bytes : Nat) (x y : Operand) : step call ⟨dst, .app sz bytes x y, none⟩ S = stepK call S dst (.app sz bytes x y) := rfl
theorem st_callK (f : Operand) (xs : List Operand) (own : List (Nat × Nat)) : step call ⟨dst, .callK f xs own, none⟩ S = stepK call S dst (.callK f xs own) := rfl
end

theorem putD_some (s : List (Nat × AV)) (l : List (Nat × List AV)) (d : Nat) (v : AV) : St.putD ⟨s, l⟩ (some d) v = ⟨put s d v, l⟩ := rfl
theorem clean_mk (s : List (Nat × AV)) (l : List (Nat × List AV)) (ks kr : List Nat) : St.clean ⟨s, l⟩ ks kr = ⟨keepS ks s, keepL kr l⟩ := rfl

/-! ### Code, by equations -/

section
variable {F : CallF} {S : St} {Q : Ex → St → Prop}

theorem W_skip : W F .skip S Q = Q .normal S := propext ⟨fun ⟨_, _, _, h, hq⟩ => by cases h; exact hq, w_skip⟩
theorem W_ret : W F .ret S Q = Q .ret S := propext ⟨fun ⟨_, _, _, h, hq⟩ => by cases h; exact hq, w_ret⟩
theorem W_exit {id : Nat} : W F (.exit id) S Q = Q (.exit id) S := propext ⟨fun ⟨_, _, _, h, hq⟩ => by cases h; exact hq, w_exit⟩
theorem W_reg {ops : List AOper} : W F (.reg ops) S Q = onSome (Q .normal) () (steps F ops S) := by
  refine propext ⟨?_, ?_⟩
  · rintro ⟨n, e, S1, h, hq⟩
    simp only [evC] at h
    split at h <;> cases h
    exact ⟨_, by assumption, hq⟩
  · rintro ⟨S1, h, hq⟩; exact w_reg h hq
theorem W_seq {a b : AC} : W F (.seq a b) S Q = W F a S (andThen F b Q) := by
  refine propext ⟨?_, w_seq⟩
  rintro ⟨n, e, S1, h, hq⟩
  simp only [evC] at h
  cases hs : evC F n a S with
  | none => rw [hs] at h; cases h
  | some p =>
    rw [hs] at h
    obtain ⟨e1, S2⟩ := p
    refine ⟨n, e1, S2, hs, ?_⟩
    cases e1 with
    | normal => exact ⟨n, e, S1, h, hq⟩
    | ret => cases h; exact hq
    | exit id => cases h; exact hq
theorem W_cond {c : Operand} {a b : AC} : W F (.cond c a b) S Q = onB (W F a S Q) (W F b S Q) () (evalO S.s c) := by
  refine propext ⟨?_, ?_⟩
  · rintro ⟨n, e, S1, h, hq⟩
    simp only [evC] at h
    split at h <;> first | (cases h; done) | skip
    rename_i t ht
    refine ⟨t, ht, ?_⟩
    cases t
    · exact ⟨n, e, S1, h, hq⟩
    · exact ⟨n, e, S1, h, hq⟩
  · rintro ⟨t, ht, h⟩; exact w_cond ht h
theorem W_block {id : Nat} {a : AC} : W F (.block id a) S Q = W F a S fun e S1 => Q (e.unblock id) S1 := by
  refine propext ⟨?_, w_block⟩
  rintro ⟨n, e, S1, h, hq⟩
  simp only [evC] at h
  split at h <;> cases h
  exact ⟨n, _, _, by assumption, hq⟩
def cleanO (o : Option St) (ks kr : List Nat) : Option St := o.map fun S => S.clean ks kr
theorem cleanO_some (S : St) (ks kr : List Nat) : cleanO (some S) ks kr = some (S.clean ks kr) := rfl
def frzO (o : Option St) (r : List Nat) : Option St := o.bind fun S => freezes S r
theorem freezes_nil : freezes S [] = some S := rfl
theorem freezes_cons (d : Nat) (r : List Nat) : freezes S (d :: r) = frzO (S.freeze d) r := by
  simp only [freezes, frzO]; cases S.freeze d <;> rfl
theorem frzO_some (S : St) (r : List Nat) : frzO (some S) r = freezes S r := rfl
theorem freeze_mk (s : List (Nat × AV)) (l : List (Nat × List AV)) (d : Nat) : St.freeze ⟨s, l⟩ d = match look l d with | some cs => some ⟨mapS (frz1 d cs) s, del l d⟩ | none => none := rfl
theorem W_pre {fr ks kr : List Nat} {a : AC} : W F (.pre fr ks kr a) S Q = onSome (fun S1 => W F a S1 Q) () (cleanO (freezes S fr) ks kr) := by
  refine propext ⟨?_, ?_⟩
  · rintro ⟨n, e, S1, h, hq⟩
    simp only [evC] at h
    split at h <;> first | (cases h; done) | skip
    rename_i S2 e2
    exact ⟨S2.clean ks kr, by rw [e2]; rfl, n, _, _, h, hq⟩
  · rintro ⟨S1, h1, h2⟩
    cases hf : freezes S fr with
    | none => rw [hf] at h1; cases h1
    | some S2 => rw [hf] at h1; cases h1; exact w_pre hf h2

theorem W_loop {ks kr : List Nat} {a : AC} : W F (.loop ks kr a) S Q = HoldW F (.loop ks kr a) S Q () () := rfl
theorem andThen_normal {b : AC} : andThen F b Q .normal S = W F b S Q := rfl
theorem andThen_ret {b : AC} : andThen F b Q .ret S = Q .ret S := rfl
theorem andThen_exit {b : AC} {id : Nat} : andThen F b Q (.exit id) S = Q (.exit id) S := rfl
theorem unblock_normal {id : Nat} : Ex.unblock id .normal = .normal := rfl
theorem unblock_ret {id : Nat} : Ex.unblock id .ret = .ret := rfl
theorem unblock_exit {id j : Nat} : Ex.unblock id (.exit j) = if j = id then .normal else .exit j := by
  simp only [Ex.unblock, Bool.cond_eq_ite, Nat.beq_eq]
end

/-- A call's end. -/
def finR (np : Nat) (res : List ARes) (args : List AV) (S : St) : Option Ret :=
  match resL S res with
  | some vs =>
    (match toRets np S.l vs vs, lentOf S.l 0 args with
     | some rs, some lent => some ⟨one rs, lent⟩
     | _, _ => none)
  | none => none
def Ends (np : Nat) (res : List ARes) (xs : List AV) (r : Ret) (e : Ex) (S : St) : Prop := (match e with | .exit _ => False | _ => True) ∧ finR np res xs S = some r

theorem Ends_normal {np : Nat} {res : List ARes} {xs : List AV} {r : Ret} {S : St} : Ends np res xs r .normal S = (finR np res xs S = some r) := by simp [Ends]
theorem Ends_ret {np : Nat} {res : List ARes} {xs : List AV} {r : Ret} {S : St} : Ends np res xs r .ret S = (finR np res xs S = some r) := by simp [Ends]

theorem call_by {tab : Nat → Option AFun} {f : Nat} {A : AFun} {xs : List AV} {r : Ret} (hA : tab f = some A) (hn : xs.length = A.np)
    (h : W (FF tab) A.body ⟨enterS 0 xs, enterL 0 xs⟩ (Ends A.np A.res xs r)) : FF tab f xs = some r := call_of hA hn h

/-! ### Numbers -/

theorem tmod_eq (a m : Int) : Int.tmod a m = if 0 ≤ a then a % m else -((-a) % m) := by
  split
  · rename_i h; exact Int.tmod_eq_emod_of_nonneg h
  · rename_i h
    have : a.tmod m = -((-a).tmod m) := by rw [Int.neg_tmod]; omega
    rw [this, Int.tmod_eq_emod_of_nonneg (by omega)]

theorem tdiv_eq (a m : Int) : Int.tdiv a m = if 0 ≤ a then a / m else -((-a) / m) := by
  split
  · rename_i h; exact Int.tdiv_eq_ediv_of_nonneg h
  · rename_i h
    have : a.tdiv m = -((-a).tdiv m) := by rw [Int.neg_tdiv]; omega
    rw [this, Int.tdiv_eq_ediv_of_nonneg (by omega)]

theorem shiftV_shr {k : IntKind} {a c : Int} (h : 0 ≤ c) : shiftV .shr k a c = some (.i k (a / 2 ^ (min c.toNat k.bits))) := by
  have h1 : ¬ c < 0 := by omega
  have h2 : (0 : Int) ≤ 2 ^ (min c.toNat k.bits) := Int.pow_nonneg (by omega)
  simp [shiftV, h1, Int.fdiv_eq_ediv_of_nonneg _ h2]
theorem shiftV_shl {k : IntKind} {a c : Int} (h : 0 ≤ c) : shiftV .shl k a c = some (.i k (k.wrap (a * 2 ^ (min c.toNat k.bits)))) := by
  have h1 : ¬ c < 0 := by omega
  simp [shiftV, h1]
theorem intV_quo {k : IntKind} {a c : Int} (h : c ≠ 0) : intV .quo k a c = some (.i k (k.wrap (a.tdiv c))) := by simp [intV, h]
theorem intV_rem {k : IntKind} {a c : Int} (h : c ≠ 0) : intV .rem k a c = some (.i k (a.tmod c)) := by simp [intV, h]

end Zab
