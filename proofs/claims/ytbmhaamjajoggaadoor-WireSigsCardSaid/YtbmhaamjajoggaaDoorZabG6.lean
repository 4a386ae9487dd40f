/- Equations by which code is stepped through. No statement of the program stands here. -/
import Derived.Test.YtbmhaamjajoggaaDoorZabG5
import Derived.IntWalk
namespace Zab
open Go
set_option linter.unusedVariables false

theorem get_nil (i : Nat) : get [] i = .gone := rfl
theorem get_cons (j : Nat) (v : AV) (r : List (Nat × AV)) (i : Nat) : get ((j, v) :: r) i = if j = i then v else get r i := by
  simp only [get, Bool.cond_eq_ite, Nat.beq_eq]
theorem look_nil (i : Nat) : look [] i = none := rfl
theorem look_cons (j : Nat) (v : List AV) (r : List (Nat × List AV)) (i : Nat) : look ((j, v) :: r) i = if j = i then some v else look r i := by
  simp only [look, Bool.cond_eq_ite, Nat.beq_eq]
theorem put_nil {α : Type} (i : Nat) (v : α) : put [] i v = [(i, v)] := rfl
theorem put_cons {α : Type} (j : Nat) (u : α) (r : List (Nat × α)) (i : Nat) (v : α) : put ((j, u) :: r) i v = if j < i then (i, v) :: (j, u) :: r else if i = j then (i, v) :: r else (j, u) :: put r i v := by
  simp only [put, Bool.cond_eq_ite, Nat.beq_eq, Nat.blt_eq]
theorem del_nil {α : Type} (i : Nat) : del ([] : List (Nat × α)) i = [] := rfl
theorem del_cons {α : Type} (j : Nat) (u : α) (r : List (Nat × α)) (i : Nat) : del ((j, u) :: r) i = if j = i then del r i else (j, u) :: del r i := by
  simp only [del, Bool.cond_eq_ite, Nat.beq_eq]
theorem memb_nil (i : Nat) : memb [] i = false := rfl
theorem memb_cons (j : Nat) (r : List Nat) (i : Nat) : memb (j :: r) i = if j = i then true else memb r i := by
  simp only [memb]; by_cases h : j = i
  · subst h; simp [Nat.beq_refl]
  · have : Nat.beq j i = false := by rw [← Bool.not_eq_true, Nat.beq_eq]; exact h
    simp [this, h]
theorem keepS_nil (s : List (Nat × AV)) : keepS [] s = [] := rfl
theorem keepS_cons (k : Nat) (r : List Nat) (s : List (Nat × AV)) : keepS (k :: r) s = (k, get s k) :: keepS r s := rfl
theorem keepL_nil (l : List (Nat × List AV)) : keepL [] l = [] := rfl
theorem keepL_cons (k : Nat) (r : List Nat) (l : List (Nat × List AV)) : keepL (k :: r) l = match look l k with | some cs => (k, cs) :: keepL r l | none => keepL r l := rfl

/-! ### Steps -/

/-- Beside an argument that is to stay as it is while a term is simplified. -/
def Tg {α : Sort _} (_ : α) : Type := Unit
def Tg2 {α : Sort _} {β : Sort _} (_ : α) (_ : β) : Type := Unit

/-- A value, put; whatever comes behind a state, if there is one. -/
def optPut (S : St) (dst : Option Nat) (_ : Tg2 S dst) (v : Option AV) : Option St := v.map (S.putD dst)
def optMem (s : List (Nat × AV)) (_ : Tg s) (l : Option (List (Nat × List AV))) : Option St := l.map fun l => ⟨s, l⟩
def onG (want : Bool) (a b : Option St) (_ : Tg2 a b) (g : AV) : Option St :=
  match g with
  | .b x => if x = want then a else b
  | .gone => none
  | _ => b
def onSome (p : St → Prop) (_ : Tg p) (o : Option St) : Prop := ∃ S, o = some S ∧ p S
def onB (p q : Prop) (_ : Tg2 p q) (v : AV) : Prop := ∃ t, v = .b t ∧ if t = true then p else q
def stepsAt (call : CallF) (r : List AOper) (_ : Tg2 call r) (o : Option St) : Option St := o.bind (steps call r)
/-- Code that is not stepped through by equations. -/
def HoldW (F : CallF) (a : AC) (S : St) (Q : Ex → St → Prop) (_ : Tg2 F a) (_ : Tg2 S Q) : Prop := W F a S Q

theorem optPut_some (s : List (Nat × AV)) (l : List (Nat × List AV)) (d : Nat) (v : AV) : optPut ⟨s, l⟩ (some d) () (some v) = some ⟨put s d v, l⟩ := rfl
theorem optMem_some (s : List (Nat × AV)) (l : List (Nat × List AV)) : optMem s () (some l) = some ⟨s, l⟩ := rfl
theorem onG_b {x want : Bool} {a b : Option St} : onG want a b () (.b x) = if x = want then a else b := rfl
theorem onG_tt {a b : Option St} : onG true a b () (.b true) = a := rfl
theorem onG_tf {a b : Option St} : onG false a b () (.b true) = b := rfl
theorem onG_ft {a b : Option St} : onG true a b () (.b false) = b := rfl
theorem onG_ff {a b : Option St} : onG false a b () (.b false) = a := rfl
theorem onG_un {want : Bool} {a b : Option St} : onG want a b () .un = b := rfl
theorem onSome_some {S : St} {p : St → Prop} : onSome p () (some S) = p S := by simp [onSome]
theorem onB_true {p q : Prop} : onB p q () (.b true) = p := by simp [onB]
theorem onB_false {p q : Prop} : onB p q () (.b false) = q := by simp [onB]
theorem stepsAt_some {S : St} {call : CallF} {r : List AOper} : stepsAt call r () (some S) = steps call r S := rfl

theorem onB_of {c : Prop} [Decidable c] {p q : Prop} (h1 : c → p) (h2 : ¬ c → q) : onB p q () (.b (decide c)) := by
  by_cases h : c
  · exact ⟨true, by simp [h], by simpa using h1 h⟩
  · exact ⟨false, by simp [h], by simpa using h2 h⟩
theorem onB_by {t : Bool} {p q : Prop} (h1 : t = true → p) (h2 : t = false → q) : onB p q () (.b t) := by
  cases t
  · exact ⟨false, rfl, by simpa using h2 rfl⟩
  · exact ⟨true, rfl, by simpa using h1 rfl⟩

section
variable (call : CallF) (S : St)

theorem steps_nil : steps call [] S = some S := rfl
theorem steps_cons (o : AOper) (r : List AOper) : steps call (o :: r) S = stepsAt call r () (step call o S) := by
  simp only [steps, stepsAt]; cases step call o S <;> rfl

theorem step_some (dst : Option Nat) (op : AOp) (t : Nat) (want : Bool) : step call ⟨dst, op, some (t, want)⟩ S = onG want (step call ⟨dst, op, none⟩ S) (some (S.putD dst .un)) () (get S.s t) := by
  unfold step; simp only [wants, onG]
  cases get S.s t <;> try rfl
  rename_i x
  cases x <;> cases want <;> rfl

variable (dst : Option Nat)
theorem st_move (x : Operand) : step call ⟨dst, .move x, none⟩ S = optPut S dst () (some (evalO S.s x)) := rfl
theorem st_pick (c x y : Operand) : step call ⟨dst, .pick c x y, none⟩ S = optPut S dst () (match evalO S.s c with | .b t => some (bif t then evalO S.s x else evalO S.s y) | _ => none) := rfl
theorem st_bin (ek : EqKind) (op : BinOp) (x y : Operand) : step call ⟨dst, .bin ek op x y, none⟩ S = optPut S dst () (binV ek op (evalO S.s x) (evalO S.s y)) := rfl
theorem st_un (op : UnOp) (x : Operand) : step call ⟨dst, .un op x, none⟩ S = optPut S dst () (unV op (evalO S.s x)) := rfl
def convV (k : IntKind) : AV → Option AV | .i _ n => some (.i k (k.wrap n)) | _ => none
theorem convV_i (k k' : IntKind) (n : Int) : convV k (.i k' n) = some (.i k (k.wrap n)) := rfl
theorem st_conv (k : IntKind) (x : Operand) : step call ⟨dst, .conv k x, none⟩ S = optPut S dst () (convV k (evalO S.s x)) := by
  simp only [step, wants, AOp.cls, pureV, optPut, convV]; cases evalO S.s x <;> rfl
def addrV (off : Nat) : AV → Option AV | .rf d o => some (.rf d (o + off)) | .el cs o => some (.el cs (o + off)) | _ => none
theorem st_addr (off : Nat) (x : Operand) : step call ⟨dst, .addr off x, none⟩ S = optPut S dst () (addrV off (evalO S.s x)) := by
  simp only [step, wants, AOp.cls, pureV, optPut, addrV]; cases evalO S.s x <;> rfl
theorem st_ixA (len sz : Nat) (x i : Operand) : step call ⟨dst, .ixA len sz x i, none⟩ S = optPut S dst () (pureV (evalO S.s) (.ixA len sz x i)) := rfl
theorem st_ixS (sz : Nat) (x i : Operand) : step call ⟨dst, .ixS sz x i, none⟩ S = optPut S dst () (pureV (evalO S.s) (.ixS sz x i)) := rfl
theorem st_fld (off : Nat) (m : Option Nat) (x : Operand) : step call ⟨dst, .fld off m x, none⟩ S = optPut S dst () (pureV (evalO S.s) (.fld off m x)) := rfl
theorem st_ixV (len sz : Nat) (m : Option Nat) (x i : Operand) : step call ⟨dst, .ixV len sz m x i, none⟩ S = optPut S dst () (pureV (evalO S.s) (.ixV len sz m x i)) := rfl
theorem st_ixStr (x i : Operand) : step call ⟨dst, .ixStr x i, none⟩ S = optPut S dst () (pureV (evalO S.s) (.ixStr x i)) := rfl
theorem st_ext (j : Nat) (x : Operand) : step call ⟨dst, .ext j x, none⟩ S = optPut S dst () (match evalO S.s x with | .tp l => l[j]? | _ => none) := rfl
theorem st_build (zero : List AV) (parts : List (Nat × Nat × Operand)) : step call ⟨dst, .build zero parts, none⟩ S = optPut S dst () (pureV (evalO S.s) (.build zero parts)) := rfl
theorem st_bsl (n : Nat) (zero : List AV) (parts : List (Nat × Nat × Operand)) : step call ⟨dst, .bsl n zero parts, none⟩ S = optPut S dst () (pureV (evalO S.s) (.bsl n zero parts)) := rfl
theorem st_mkS (zero : List AV) (bytes : Nat) (l c : Operand) : step call ⟨dst, .mkS zero bytes l c, none⟩ S = optPut S dst () (pureV (evalO S.s) (.mkS zero bytes l c)) := rfl
theorem st_mkfn (f : Nat) (l : List Operand) : step call ⟨dst, .mkfn f l, none⟩ S = optPut S dst () (pureV (evalO S.s) (.mkfn f l)) := rfl
theorem st_len (b : Bool) (x : Operand) : step call ⟨dst, .len b x, none⟩ S = optPut S dst () (pureV (evalO S.s) (.len b x)) := rfl
theorem st_mn (l : List Operand) : step call ⟨dst, .mn l, none⟩ S = optPut S dst () (pureV (evalO S.s) (.mn l)) := rfl
theorem st_mx (l : List Operand) : step call ⟨dst, .mx l, none⟩ S = optPut S dst () (pureV (evalO S.s) (.mx l)) := rfl
theorem st_nilChk (x : Operand) : step call ⟨dst, .nilChk x, none⟩ S = optPut S dst () (pureV (evalO S.s) (.nilChk x)) := rfl
theorem st_tas (t : Nat) (zero : AV) (x : Operand) : step call ⟨dst, .tas t zero x, none⟩ S = optPut S dst () (pureV (evalO S.s) (.tas t zero x)) := rfl
theorem st_cap (x : Operand) : step call ⟨dst, .cap x, none⟩ S = optPut S dst () (match evalO S.s x with | .z => some (.i .i64 0) | _ => none) := rfl
theorem st_mki (t : Nat) (x : Operand) : step call ⟨dst, .mki t x, none⟩ S = optPut S dst () (match evalO S.s x with | .el cs 0 => some (.ie t cs) | _ => none) := rfl
def boxEV (o : Option (List AV)) : Option AV := match o with | some cs => some (.el cs 0) | none => none
theorem boxEV_some (cs : List AV) : boxEV (some cs) = some (.el cs 0) := rfl
theorem st_boxE (sz : Nat) (v : Operand) : step call ⟨dst, .boxE sz v, none⟩ S = optPut S dst () (boxEV (cellsOf sz (evalO S.s v))) := by
  simp only [step, wants, AOp.cls, pureV, optPut, boxEV]; cases cellsOf sz (evalO S.s v) <;> rfl
def buildQV (o : Option (List AV)) : Option AV := match o with | some cs => some (.aq cs) | none => none
theorem buildQV_some (cs : List AV) : buildQV (some cs) = some (.aq cs) := rfl
theorem st_buildQ (zero : List AV) (parts : List (Nat × Nat × Operand)) : step call ⟨dst, .buildQ zero parts, none⟩ S = optPut S dst () (buildQV (fillQ (evalO S.s) parts zero)) := by
  simp only [step, wants, AOp.cls, pureV, optPut, buildQV]; cases fillQ (evalO S.s) parts zero <;> rfl
theorem st_boxQ (sz : Nat) (v : Operand) (nils : List (Nat × Nat)) : step call ⟨dst, .boxQ sz v nils, none⟩ S = stepK call S dst (.boxQ sz v nils) := rfl
theorem st_allocQ (zero : List AV) (nils : List (Nat × Nat)) : step call ⟨dst, .allocQ zero nils, none⟩ S = stepK call S dst (.allocQ zero nils) := rfl
theorem st_appN (zero : List AV) (bytes : Nat) (x n : Operand) : step call ⟨dst, .appN zero bytes x n, none⟩ S = stepK call S dst (.appN zero bytes x n) := rfl
theorem st_slc (sz : Nat) (x : Operand) (lo hi mx : Option Operand) : step call ⟨dst, .slc sz x lo hi mx, none⟩ S = optPut S dst () (slcV sz (evalO S.s x) (lo.map (evalO S.s)) (hi.map (evalO S.s)) (mx.map (evalO S.s))) := rfl
theorem st_ldR (d : Nat) (m : Option Nat) (x : Operand) : step call ⟨dst, .ldR d m x, none⟩ S = optPut S dst () (readV call (evalO S.s) S.l (.ldR d m x)) := rfl
theorem st_load (m : Option Nat) (x : Operand) : step call ⟨dst, .load m x, none⟩ S = optPut S dst () (readV call (evalO S.s) S.l (.load m x)) := rfl
theorem st_call (f : Nat) (l : List Operand) : step call ⟨dst, .call (.func f) l, none⟩ S = optPut S dst () (match toArgs S.l (evalL (evalO S.s) l) with
       | some vs =>
         (match call f vs with
          | some ⟨r, []⟩ => bif anyRs [] (evalL (evalO S.s) l) && hasSl r then none else fromRet r
          | _ => none)
       | none => none) := rfl
theorem st_store (sz : Nat) (x v : Operand) : step call ⟨dst, .store sz x v, none⟩ S = optMem S.s () (writeV (evalO S.s) S.l (.store sz x v)) := rfl
theorem st_box (sz : Nat) (v : Operand) : step call ⟨dst, .box sz v, none⟩ S = stepK call S dst (.box sz v) := rfl
theorem st_alloc (zero : List AV) : step call ⟨dst, .alloc zero, none⟩ S = stepK call S dst (.alloc zero) := rfl
theorem st_mkR (zero : List AV) (bytes : Nat) (l c : Operand) : step call ⟨dst, .mkR zero bytes l c, none⟩ S = stepK call S dst (.mkR zero bytes l c) := rfl
theorem st_bslR (n : Nat) (zero : List AV) (parts : List (Nat × Nat × Operand)) : step call ⟨dst, .bslR n zero parts, none⟩ S = stepK call S dst (.bslR n zero parts) := rfl
theorem st_nilR (sz : Nat) (x : Operand) : step call ⟨dst, .nilR sz x, none⟩ S = stepK call S dst (.nilR sz x) := rfl
theorem st_app (sz bytes : Nat) (x y : Operand) : step call ⟨dst, .app sz bytes x y, none⟩ S = stepK call S dst (.app sz bytes x y) := rfl
theorem st_callK (f : Operand) (xs : List Operand) (own : List (Nat × Nat)) : step call ⟨dst, .callK f xs own, none⟩ S = stepC call S dst (.callK f xs own) := rfl
end

theorem putD_some (s : List (Nat × AV)) (l : List (Nat × List AV)) (d : Nat) (v : AV) : St.putD ⟨s, l⟩ (some d) v = ⟨put s d v, l⟩ := rfl
theorem clean_mk (s : List (Nat × AV)) (l : List (Nat × List AV)) (ks kr : List Nat) : St.clean ⟨s, l⟩ ks kr = ⟨keepS ks s, special l ++ keepL kr l⟩ := rfl
theorem special_nil : special [] = [] := rfl
theorem special_cons (k : Nat) (cs : List AV) (r : List (Nat × List AV)) : special ((k, cs) :: r) = if 1000000 ≤ k then (k, cs) :: special r else special r := by
  simp only [special, Bool.cond_eq_ite, Nat.ble_eq]
theorem mapQ_nil (f : AV → AV) : mapQ f [] = [] := rfl
theorem mapQ_cons (f : AV → AV) (j : Nat) (cs : List AV) (r : List (Nat × List AV)) : mapQ f ((j, cs) :: r) = if j < 1000000000000 then (j, cs) :: mapQ f r else (j, cs.map f) :: mapQ f r := by
  by_cases h : j < 1000000000000
  · have : isRef j = false := by unfold isRef; rw [← Bool.not_eq_true, Nat.ble_eq]; omega
    simp [mapQ, this, h]
  · have : isRef j = true := by unfold isRef; rw [Nat.ble_eq]; omega
    simp [mapQ, this, h]
theorem isRef_if {α : Type} (d : Nat) (x y : α) : (bif isRef d then x else y) = if d < 1000000000000 then y else x := by
  by_cases h : d < 1000000000000
  · have : isRef d = false := by unfold isRef; rw [← Bool.not_eq_true, Nat.ble_eq]; omega
    simp [this, h]
  · have : isRef d = true := by unfold isRef; rw [Nat.ble_eq]; omega
    simp [this, h]

/-! ### Code, by equations -/

section
variable {F : CallF} {S : St} {Q : Ex → St → Prop}

theorem W_skip : W F .skip S Q = Q .normal S := propext ⟨fun ⟨_, _, _, h, hq⟩ => by cases h; exact hq, w_skip⟩
theorem W_ret : W F .ret S Q = Q .ret S := propext ⟨fun ⟨_, _, _, h, hq⟩ => by cases h; exact hq, w_ret⟩
theorem W_exit {id : Nat} : W F (.exit id) S Q = Q (.exit id) S := propext ⟨fun ⟨_, _, _, h, hq⟩ => by cases h; exact hq, w_exit⟩
theorem W_reg {ops : List AOper} : W F (.reg ops) S Q = onSome (Q .normal) () (steps F ops S) := by
  refine propext ⟨?_, ?_⟩
  · rintro ⟨n, e, S1, h, hq⟩
    simp only [evC] at h
    split at h <;> cases h
    exact ⟨_, by assumption, hq⟩
  · rintro ⟨S1, h, hq⟩; exact w_reg h hq
theorem W_seq {a b : AC} : W F (.seq a b) S Q = W F a S (andThen F b Q) := by
  refine propext ⟨?_, w_seq⟩
  rintro ⟨n, e, S1, h, hq⟩
  simp only [evC] at h
  cases hs : evC F n a S with
  | none => rw [hs] at h; cases h
  | some p =>
    rw [hs] at h
    obtain ⟨e1, S2⟩ := p
    refine ⟨n, e1, S2, hs, ?_⟩
    cases e1 with
    | normal => exact ⟨n, e, S1, h, hq⟩
    | ret => cases h; exact hq
    | exit id => cases h; exact hq
theorem W_cond {c : Operand} {a b : AC} : W F (.cond c a b) S Q = onB (W F a S Q) (W F b S Q) () (evalO S.s c) := by
  refine propext ⟨?_, ?_⟩
  · rintro ⟨n, e, S1, h, hq⟩
    simp only [evC] at h
    split at h <;> first | (cases h; done) | skip
    rename_i t ht
    refine ⟨t, ht, ?_⟩
    cases t
    · exact ⟨n, e, S1, h, hq⟩
    · exact ⟨n, e, S1, h, hq⟩
  · rintro ⟨t, ht, h⟩; exact w_cond ht h
theorem W_block {id : Nat} {a : AC} : W F (.block id a) S Q = W F a S fun e S1 => Q (e.unblock id) S1 := by
  refine propext ⟨?_, w_block⟩
  rintro ⟨n, e, S1, h, hq⟩
  simp only [evC] at h
  split at h <;> cases h
  exact ⟨n, _, _, by assumption, hq⟩
def cleanO (o : Option St) (ks kr : List Nat) : Option St := o.map fun S => S.clean ks kr
theorem cleanO_some (S : St) (ks kr : List Nat) : cleanO (some S) ks kr = some (S.clean ks kr) := rfl
def frzO (o : Option St) (r : List Nat) : Option St := o.bind fun S => freezes S r
theorem freezes_nil : freezes S [] = some S := rfl
theorem freezes_cons (d : Nat) (r : List Nat) : freezes S (d :: r) = frzO (S.freeze d) r := by
  simp only [freezes, frzO]; cases S.freeze d <;> rfl
theorem frzO_some (S : St) (r : List Nat) : frzO (some S) r = freezes S r := rfl
def frzR (s : List (Nat × AV)) (l : List (Nat × List AV)) (_ : Tg2 s l) (d : Nat) (row : Option (List AV)) : Option St := match row with | some cs => some ⟨mapS (frz2 d cs) s, mapQ (frz1 d cs) (del l d)⟩ | none => some ⟨s, l⟩
theorem frzR_none (s : List (Nat × AV)) (l : List (Nat × List AV)) (d : Nat) : frzR s l () d none = some ⟨s, l⟩ := rfl
theorem frzR_some (s : List (Nat × AV)) (l : List (Nat × List AV)) (d : Nat) (cs : List AV) : frzR s l () d (some cs) = some ⟨mapS (frz2 d cs) s, mapQ (frz1 d cs) (del l d)⟩ := rfl
theorem freeze_mk (s : List (Nat × AV)) (l : List (Nat × List AV)) (d : Nat) : St.freeze ⟨s, l⟩ d = if d < 1000000000000 then frzR s l () d (look l d) else none := by
  unfold St.freeze frzR
  rw [isRef_if]
  split
  · show (match look l d with | some cs => _ | none => _) = _
    cases look l d <;> rfl
  · rfl
theorem W_pre {fr ks kr : List Nat} {a : AC} : W F (.pre fr ks kr a) S Q = onSome (fun S1 => W F a S1 Q) () (cleanO (freezes S fr) ks kr) := by
  refine propext ⟨?_, ?_⟩
  · rintro ⟨n, e, S1, h, hq⟩
    simp only [evC] at h
    split at h <;> first | (cases h; done) | skip
    rename_i S2 e2
    exact ⟨S2.clean ks kr, by rw [e2]; rfl, n, _, _, h, hq⟩
  · rintro ⟨S1, h1, h2⟩
    cases hf : freezes S fr with
    | none => rw [hf] at h1; cases h1
    | some S2 => rw [hf] at h1; cases h1; exact w_pre hf h2

theorem W_loop {ks kr : List Nat} {a : AC} : W F (.loop ks kr a) S Q = HoldW F (.loop ks kr a) S Q () () := rfl
theorem W_rng {f : Nat} {g : Operand} {p : Nat} {ks kr : List Nat} {a b : AC} : W F (.rng f g p ks kr a b) S Q = HoldW F (.rng f g p ks kr a b) S Q () () := rfl
theorem andThen_normal {b : AC} : andThen F b Q .normal S = W F b S Q := rfl
theorem andThen_ret {b : AC} : andThen F b Q .ret S = Q .ret S := rfl
theorem andThen_exit {b : AC} {id : Nat} : andThen F b Q (.exit id) S = Q (.exit id) S := rfl
theorem unblock_normal {id : Nat} : Ex.unblock id .normal = .normal := rfl
theorem unblock_ret {id : Nat} : Ex.unblock id .ret = .ret := rfl
theorem unblock_exit {id j : Nat} : Ex.unblock id (.exit j) = if j = id then .normal else .exit j := by
  simp only [Ex.unblock, Bool.cond_eq_ite, Nat.beq_eq]
end

/-- A call's end. -/
def finR (np : Nat) (res : List ARes) (args : List AV) (S : St) : Option Ret :=
  match resL S res with
  | some vs =>
    (match toRets np S.l vs vs, lentOf S.l 0 args with
     | some (rs, h, s), some (lent, h') => bif okFin np (h ++ h') s then some ⟨one rs, lent⟩ else none
     | _, _ => none)
  | none => none
def Ends (np : Nat) (res : List ARes) (xs : List AV) (r : Ret) (e : Ex) (S : St) : Prop := (match e with | .exit _ => False | _ => True) ∧ finR np res xs S = some r

theorem Ends_normal {np : Nat} {res : List ARes} {xs : List AV} {r : Ret} {S : St} : Ends np res xs r .normal S = (finR np res xs S = some r) := by simp [Ends]
theorem Ends_ret {np : Nat} {res : List ARes} {xs : List AV} {r : Ret} {S : St} : Ends np res xs r .ret S = (finR np res xs S = some r) := by simp [Ends]

theorem call_by {tab : Nat → Option AFun} {f : Nat} {A : AFun} {xs : List AV} {r : Ret} (hA : tab f = some A) (hn : xs.length = A.np)
    (h : W (FF tab) A.body ⟨enterS 0 xs, enterL 0 xs⟩ (Ends A.np A.res xs r)) : FF tab f xs = some r := call_of hA hn h

/-! ### Numbers -/

theorem tmod_eq (a m : Int) : Int.tmod a m = if 0 ≤ a then a % m else -((-a) % m) := by
  split
  · rename_i h; exact Int.tmod_eq_emod_of_nonneg h
  · rename_i h
    have : a.tmod m = -((-a).tmod m) := by rw [Int.neg_tmod]; omega
    rw [this, Int.tmod_eq_emod_of_nonneg (by omega)]

theorem tdiv_eq (a m : Int) : Int.tdiv a m = if 0 ≤ a then a / m else -((-a) / m) := by
  split
  · rename_i h; exact Int.tdiv_eq_ediv_of_nonneg h
  · rename_i h
    have : a.tdiv m = -((-a).tdiv m) := by rw [Int.neg_tdiv]; omega
    rw [this, Int.tdiv_eq_ediv_of_nonneg (by omega)]

theorem shiftV_shr {k : IntKind} {a c : Int} (h : 0 ≤ c) : shiftV .shr k a c = some (.i k (a / 2 ^ (min c.toNat k.bits))) := by
  have h1 : ¬ c < 0 := by omega
  have h2 : (0 : Int) ≤ 2 ^ (min c.toNat k.bits) := Int.pow_nonneg (by omega)
  simp [shiftV, h1, Int.fdiv_eq_ediv_of_nonneg _ h2]
theorem shiftV_shl {k : IntKind} {a c : Int} (h : 0 ≤ c) : shiftV .shl k a c = some (.i k (k.wrap (a * 2 ^ (min c.toNat k.bits)))) := by
  have h1 : ¬ c < 0 := by omega
  simp [shiftV, h1]
theorem intV_quo {k : IntKind} {a c : Int} (h : c ≠ 0) : intV .quo k a c = some (.i k (k.wrap (a.tdiv c))) := by simp [intV, h]
theorem intV_rem {k : IntKind} {a c : Int} (h : c ≠ 0) : intV .rem k a c = some (.i k (a.tmod c)) := by simp [intV, h]

end Zab

namespace Zab
open Go
set_option linter.unusedVariables false
set_option linter.unusedSimpArgs false

def ixAV (len sz : Nat) (x i : AV) : Option AV :=
  match i with
  | .i _ j => bif decide (0 ≤ j) && decide (j < (len : Int)) then
      (match x with | .rf d o => some (.rf d (o + j.toNat * sz)) | .el cs o => some (.el cs (o + j.toNat * sz)) | _ => none) else none
  | _ => none
def ixSV (sz : Nat) (x i : AV) : Option AV :=
  match i with
  | .i _ j =>
    (match x with
     | .sl cs n => bif Nat.blt (j.toNat * sz) cs.length && (decide (0 ≤ j) && decide (j < (n : Int))) then some (.el cs (j.toNat * sz)) else none
     | .rs d o n sz' => bif Nat.beq sz sz' && (decide (0 ≤ j) && decide (j < (n : Int))) then some (.rf d (o + j.toNat * sz)) else none
     | _ => none)
  | _ => none
def fldV (off : Nat) (m : Option Nat) (x : AV) : Option AV := match x with | .ag cs => partV cs off m | .aq cs => (bif allQ cs then partQ cs off m else none) | _ => none
def ixVV (len sz : Nat) (m : Option Nat) (x i : AV) : Option AV :=
  match i with
  | .i _ j => bif decide (0 ≤ j) && decide (j < (len : Int)) then (match x with | .ag cs => partV cs (j.toNat * sz) m | _ => none) else none
  | _ => none
def lenV (x : AV) : Option AV := match x with | .sl _ n | .rs _ _ n _ => some (.i .i64 n) | .z => some (.i .i64 0) | _ => none
def mkSV (zero : List AV) (bytes : Nat) (l c : AV) : Option AV :=
  match l, c with
  | .i .i64 n, .i .i64 m => bif decide (0 ≤ n) && (decide (n = m) && decide (n.toNat * bytes ≤ 140737488355328)) then some (.sl (zrep zero n.toNat) n.toNat) else none
  | _, _ => none
def loadR (row : Option (List AV)) (o : Nat) (m : Option Nat) : Option AV := match row with | some cs => partV cs o m | none => none
def loadQ (row : Option (List AV)) (o : Nat) (m : Option Nat) : Option AV := match row with | some cs => partQ cs o m | none => none
def loadV (l : List (Nat × List AV)) (m : Option Nat) (x : AV) : Option AV :=
  match x with
  | .rf d o => bif isRef d then loadQ (look l d) o m else loadR (look l d) o m
  | .el cs o => partV cs o m
  | _ => none
def setR (row : Option (List AV)) (o sz : Nat) (vs : Option (List AV)) : Option (List AV) :=
  match row, vs with
  | some cs, some vs => bif Nat.ble (o + sz) cs.length then (match vs with | [v] => some (cs.set o v) | vs => some (over cs o vs)) else none
  | _, _ => none
def storeV (l : List (Nat × List AV)) (sz : Nat) (x v : AV) : Option (List (Nat × List AV)) :=
  match x with
  | .rf d o => (setR (look l d) o sz (bif isRef d then cellsQ sz v else cellsOf sz v)).map (put l d)
  | _ => none
def mkRS (S : St) (dst : Option Nat) (_ : Tg S) (zero : List AV) (bytes : Nat) (l c : AV) : Option St :=
  match dst, l, c with
  | some d, .i .i64 n, .i .i64 m => bif decide (0 ≤ n) && (decide (n ≤ m) && decide (m.toNat * bytes ≤ 140737488355328)) then some (S.root d (zrep zero n.toNat) (.rs d 0 n.toNat zero.length)) else none
  | _, _, _ => none

section
variable (call : CallF) (S : St) (dst : Option Nat)
theorem sv_ixA (len sz : Nat) (x i : Operand) : step call ⟨dst, .ixA len sz x i, none⟩ S = optPut S dst () (ixAV len sz (evalO S.s x) (evalO S.s i)) := by
  rw [st_ixA]; simp only [pureV, ixAV]; cases evalO S.s i <;> rfl
theorem sv_ixS (sz : Nat) (x i : Operand) : step call ⟨dst, .ixS sz x i, none⟩ S = optPut S dst () (ixSV sz (evalO S.s x) (evalO S.s i)) := by
  rw [st_ixS]; simp only [pureV, ixSV]; cases evalO S.s i <;> rfl
theorem sv_fld (off : Nat) (m : Option Nat) (x : Operand) : step call ⟨dst, .fld off m x, none⟩ S = optPut S dst () (fldV off m (evalO S.s x)) := by
  rw [st_fld]; simp only [pureV, fldV]; cases evalO S.s x <;> rfl
theorem sv_ixV (len sz : Nat) (m : Option Nat) (x i : Operand) : step call ⟨dst, .ixV len sz m x i, none⟩ S = optPut S dst () (ixVV len sz m (evalO S.s x) (evalO S.s i)) := by
  rw [st_ixV]; simp only [pureV, ixVV]; cases evalO S.s i <;> rfl
theorem sv_len (x : Operand) : step call ⟨dst, .len false x, none⟩ S = optPut S dst () (lenV (evalO S.s x)) := by
  rw [st_len]; simp only [pureV, lenV]; cases evalO S.s x <;> rfl
def lenSV (x : AV) : Option AV := match x with | .s t => some (.i .i64 t.size) | _ => none
theorem sv_lenS (x : Operand) : step call ⟨dst, .len true x, none⟩ S = optPut S dst () (lenSV (evalO S.s x)) := by
  rw [st_len]; simp only [pureV, lenSV]; cases evalO S.s x <;> rfl
theorem sv_mkS (zero : List AV) (bytes : Nat) (l c : Operand) : step call ⟨dst, .mkS zero bytes l c, none⟩ S = optPut S dst () (mkSV zero bytes (evalO S.s l) (evalO S.s c)) := by
  rw [st_mkS]; rfl
theorem sv_load (m : Option Nat) (t : Nat) : step call ⟨dst, .load m (.tmp t), none⟩ S = optPut S dst () (loadV S.l m (get S.s t)) := by
  rw [st_load]; simp only [readV, loadV, evalO]; cases get S.s t <;> first | rfl | (rename_i d o; simp only [loadR, loadQ]; cases isRef d <;> cases look S.l d <;> rfl)
def ldRV (l : List (Nat × List AV)) (d : Nat) (m : Option Nat) (x : AV) : Option AV := match x with | .rf e o => if e = d then loadV l m (.rf e o) else none | _ => none
theorem ldRV_rf (l : List (Nat × List AV)) (d : Nat) (m : Option Nat) (e o : Nat) : ldRV l d m (.rf e o) = if e = d then loadV l m (.rf e o) else none := rfl
theorem sv_ldR (d : Nat) (m : Option Nat) (t : Nat) : step call ⟨dst, .ldR d m (.tmp t), none⟩ S = optPut S dst () (ldRV S.l d m (get S.s t)) := by
  rw [st_ldR]; simp only [readV, ldRV, evalO]
  cases get S.s t <;> first | rfl | skip
  rename_i e o
  simp only [Bool.cond_eq_ite, Nat.beq_eq]
  split
  · simp only [loadV, loadR, loadQ]; cases isRef e <;> cases look S.l e <;> rfl
  · rfl
theorem sv_ldg (g : Nat) : step call ⟨dst, .ldg g, none⟩ S = optPut S dst () (some (.er g)) := rfl
def ldEV (m : Option Nat) (x : AV) : Option AV := match x with | .el cs o => keepE (partV cs o m) | _ => none
theorem ldEV_el (m : Option Nat) (cs : List AV) (o : Nat) : ldEV m (.el cs o) = keepE (partV cs o m) := rfl
theorem keepE_ag (cs : List AV) : keepE (some (.ag cs)) = some (.ag cs) := rfl
theorem keepE_fl {x : AV} (h : x.flat = true) : keepE (some x) = some x := by cases x <;> first | rfl | cases h
theorem sv_ldE (m : Option Nat) (t : Nat) : step call ⟨dst, .ldE m (.tmp t), none⟩ S = optPut S dst () (ldEV m (get S.s t)) := rfl
theorem sv_loadg (g : Nat) : step call ⟨dst, .load none (.global g), none⟩ S = optPut S dst () (some (.er g)) := rfl
theorem sv_store (sz : Nat) (x v : Operand) : step call ⟨dst, .store sz x v, none⟩ S = optMem S.s () (storeV S.l sz (evalO S.s x) (evalO S.s v)) := by
  rw [st_store]; simp only [writeV, storeV]
  congr 1
  cases hx : evalO S.s x <;> first | rfl | skip
  rename_i d o
  dsimp only
  generalize (bif isRef d then cellsQ sz (evalO S.s v) else cellsOf sz (evalO S.s v)) = C
  rcases hl : look S.l d with _ | cs <;> rcases C with _ | vs <;> simp only [hl, setR, Option.map_none] <;> try rfl
  cases Nat.ble (o + sz) cs.length
  · rfl
  · simp only [cond_true]
    match vs with
    | [] => rfl
    | [v] => rfl
    | _ :: _ :: _ => rfl
theorem sv_mkR (zero : List AV) (bytes : Nat) (l c : Operand) : step call ⟨dst, .mkR zero bytes l c, none⟩ S = mkRS S dst () zero bytes (evalO S.s l) (evalO S.s c) := by
  rw [st_mkR]; simp only [stepK, mkRS]; cases dst <;> rfl
def boxS (d : Nat) (_ : Tg S) (cs : Option (List AV)) : Option St := match cs with | some cs => some (S.root d cs (.rf d 0)) | none => none
theorem sv_box (d sz : Nat) (v : Operand) : step call ⟨some d, .box sz v, none⟩ S = boxS S d () (cellsOf sz (evalO S.s v)) := by
  rw [st_box]; simp only [stepK, boxS]; cases cellsOf sz (evalO S.s v) <;> rfl
theorem sv_alloc (d : Nat) (zero : List AV) : step call ⟨some d, .alloc zero, none⟩ S = some (S.root d zero (.rf d 0)) := rfl
def buildV (o : Option (List AV)) : Option AV := match o with | some cs => some (.ag cs) | none => none
theorem sv_build (zero : List AV) (parts : List (Nat × Nat × Operand)) : step call ⟨dst, .build zero parts, none⟩ S = optPut S dst () (buildV (fillV (evalO S.s) parts zero)) := by
  rw [st_build]; simp only [pureV, buildV]; cases fillV (evalO S.s) parts zero <;> rfl
def bslV (n : Nat) (o : Option (List AV)) : Option AV := match o with | some cs => some (.sl cs n) | none => none
theorem sv_bsl (n : Nat) (zero : List AV) (parts : List (Nat × Nat × Operand)) : step call ⟨dst, .bsl n zero parts, none⟩ S = optPut S dst () (bslV n (fillV (evalO S.s) parts (zrep zero n))) := by
  rw [st_bsl]; simp only [pureV, bslV]; cases fillV (evalO S.s) parts (zrep zero n) <;> rfl
end

theorem buildV_some (cs : List AV) : buildV (some cs) = some (.ag cs) := rfl
theorem bslV_some (n : Nat) (cs : List AV) : bslV n (some cs) = some (.sl cs n) := rfl
theorem boxS_some (S : St) (d : Nat) (cs : List AV) : boxS S d () (some cs) = some (S.root d cs (.rf d 0)) := rfl
theorem root_mk (s : List (Nat × AV)) (l : List (Nat × List AV)) (d : Nat) (cs : List AV) (v : AV) : St.root ⟨s, l⟩ d cs v = ⟨put (mapS (kill1 d) s) d v, put (mapQ (kill1 d) (del l d)) d cs⟩ := rfl

/-! ### What they come to -/

theorem dec_t {c : Prop} [Decidable c] (h : c) : decide c = true := decide_eq_true h
theorem dec_f {c : Prop} [Decidable c] (h : ¬ c) : decide c = false := decide_eq_false h


theorem ixSV_sl {sz n : Nat} {cs : List AV} {k : IntKind} {j : Int} (h0 : 0 ≤ j) (h1 : j < n) (h2 : j.toNat * sz < cs.length) : ixSV sz (.sl cs n) (.i k j) = some (.el cs (j.toNat * sz)) := by
  have : Nat.blt (j.toNat * sz) cs.length = true := by simpa [Nat.blt_eq] using h2
  simp [ixSV, this, h0, h1]
theorem ixSV_rs {d o sz n : Nat} {k : IntKind} {j : Int} (h0 : 0 ≤ j) (h1 : j < n) : ixSV sz (.rs d o n sz) (.i k j) = some (.rf d (o + j.toNat * sz)) := by
  simp [ixSV, h0, h1, Nat.beq_refl]
theorem ixAV_rf {d o len sz : Nat} {k : IntKind} {j : Int} (h0 : 0 ≤ j) (h1 : j < len) : ixAV len sz (.rf d o) (.i k j) = some (.rf d (o + j.toNat * sz)) := by
  simp [ixAV, h0, h1]
theorem ixAV_el {cs : List AV} {o len sz : Nat} {k : IntKind} {j : Int} (h0 : 0 ≤ j) (h1 : j < len) : ixAV len sz (.el cs o) (.i k j) = some (.el cs (o + j.toNat * sz)) := by
  simp [ixAV, h0, h1]
theorem ixVV_ag {cs : List AV} {m : Option Nat} {len sz : Nat} {k : IntKind} {j : Int} (h0 : 0 ≤ j) (h1 : j < len) : ixVV len sz m (.ag cs) (.i k j) = partV cs (j.toNat * sz) m := by
  simp [ixVV, h0, h1]
theorem fldV_ag (off : Nat) (m : Option Nat) (cs : List AV) : fldV off m (.ag cs) = partV cs off m := rfl
theorem lenV_sl (cs : List AV) (n : Nat) : lenV (.sl cs n) = some (.i .i64 n) := rfl
theorem lenV_rs (d o n sz : Nat) : lenV (.rs d o n sz) = some (.i .i64 n) := rfl
theorem lenSV_s (t : ByteArray) : lenSV (.s t) = some (.i .i64 t.size) := rfl
theorem lenV_z : lenV .z = some (.i .i64 0) := rfl
theorem loadV_rf (l : List (Nat × List AV)) (m : Option Nat) (d o : Nat) : loadV l m (.rf d o) = if d < 1000000000000 then loadR (look l d) o m else loadQ (look l d) o m := isRef_if d _ _
theorem loadQ_some (cs : List AV) (o : Nat) (m : Option Nat) : loadQ (some cs) o m = partQ cs o m := rfl
theorem partQ_none (cs : List AV) (o : Nat) : partQ cs o none = cs[o]? := rfl
/-- A part of cells, and whether it is flat. -/
def partF (cs : List AV) (f : Bool) : Option AV := if f = true then some (.ag cs) else some (.aq cs)
theorem partQ_some {cs : List AV} {o m : Nat} (h : o + m ≤ cs.length) : partQ cs o (some m) = partF ((cs.drop o).take m) (allFlat ((cs.drop o).take m)) := by
  have : Nat.ble (o + m) cs.length = true := by simpa using h
  simp only [partQ, this, cond_true, partF]
  cases allFlat ((cs.drop o).take m) <;> rfl
theorem partF_t (cs : List AV) : partF cs true = some (.ag cs) := rfl
theorem partF_f (cs : List AV) : partF cs false = some (.aq cs) := rfl
theorem allFlat_nil : allFlat [] = true := rfl
theorem allFlat_cons (x : AV) (r : List AV) : allFlat (x :: r) = (x.flat && allFlat r) := rfl
theorem allQ_nil : allQ [] = true := rfl
theorem allQ_cons (x : AV) (r : List AV) : allQ (x :: r) = (x.cellQ && allQ r) := rfl
theorem fldV_aq (off : Nat) (m : Option Nat) (cs : List AV) : fldV off m (.aq cs) = if allQ cs = true then partQ cs off m else none := by
  simp only [fldV]; cases allQ cs <;> rfl
theorem loadV_el (l : List (Nat × List AV)) (m : Option Nat) (cs : List AV) (o : Nat) : loadV l m (.el cs o) = partV cs o m := rfl
theorem loadR_some (cs : List AV) (o : Nat) (m : Option Nat) : loadR (some cs) o m = partV cs o m := rfl
theorem partV_none (cs : List AV) (o : Nat) : partV cs o none = cs[o]? := rfl
theorem partV_all {cs : List AV} {m : Nat} (h : cs.length = m) : partV cs 0 (some m) = some (.ag cs) := by
  subst h; simp [partV, show Nat.ble cs.length cs.length = true by simp]
theorem partV_some {cs : List AV} {o m : Nat} (h : o + m ≤ cs.length) (h0 : 0 < o ∨ m < cs.length) : partV cs o (some m) = some (.ag ((cs.drop o).take m)) := by
  have : Nat.ble (o + m) cs.length = true := by simpa using h
  simp [partV, this]
theorem storeV_rf (l : List (Nat × List AV)) (sz d o : Nat) (v : AV) : storeV l sz (.rf d o) v = (setR (look l d) o sz (if d < 1000000000000 then cellsOf sz v else cellsQ sz v)).map (put l d) := by
  rw [← isRef_if]; rfl
theorem cellsQ_ag {cs : List AV} {m : Nat} (h : cs.length = m) : cellsQ m (.ag cs) = some cs := by subst h; simp [cellsQ]
theorem cellsQ_aq (m : Nat) (cs : List AV) : cellsQ m (.aq cs) = if allQ cs = true then (if cs.length = m then some cs else none) else none := by
  simp only [cellsQ, Bool.cond_eq_ite, Bool.and_eq_true, Nat.beq_eq]
  by_cases h1 : allQ cs = true <;> by_cases h2 : cs.length = m <;> simp [h1, h2]
theorem cellsQ_eqs : (∀ d o, cellsQ 1 (.rf d o) = some [.rf d o]) ∧ (∀ d o n sz, cellsQ 1 (.rs d o n sz) = some [.rs d o n sz]) ∧ (∀ k n, cellsQ 1 (.i k n) = some [.i k n]) ∧ (∀ t, cellsQ 1 (.b t) = some [.b t]) ∧
    (∀ cs n, cellsQ 1 (.sl cs n) = some [.sl cs n]) ∧ (cellsQ 1 .z = some [.z]) ∧ (∀ g, cellsQ 1 (.er g) = some [.er g]) ∧ (cellsQ 1 .nl = some [.nl]) ∧ (cellsQ 1 .np = some [.np]) ∧ (cellsQ 1 .nf = some [.nf]) ∧ (∀ t, cellsQ 1 (.s t) = some [.s t]) ∧ (∀ t cs, cellsQ 1 (.ie t cs) = some [.ie t cs]) := by
  refine ⟨?_, ?_, ?_, ?_, ?_, ?_, ?_, ?_, ?_, ?_, ?_, ?_⟩ <;> intros <;> rfl
theorem setR_one {cs : List AV} {o : Nat} {v : AV} (h : o < cs.length) : setR (some cs) o 1 (some [v]) = some (cs.set o v) := by
  have : Nat.ble (o + 1) cs.length = true := by rw [Nat.ble_eq]; omega
  simp [setR, this]
theorem setR_all {cs vs : List AV} {m : Nat} (h : cs.length = m) (h2 : vs.length = m) : setR (some cs) 0 m (some vs) = some vs := by
  subst h
  simp only [setR, Nat.zero_add, Nat.ble_eq, Nat.le_refl, cond_true, show Nat.ble cs.length cs.length = true by simp]
  match vs, h2 with
  | [], h2 => have : cs = [] := by cases cs <;> simp_all
              subst this; rfl
  | [v], h2 => match cs, h2 with
               | [c], _ => rfl
  | a :: b :: r, h2 => simp only [over, List.take_zero, List.nil_append, Nat.zero_add, h2]; simp
theorem cellsOf_ag {cs : List AV} {m : Nat} (h : cs.length = m) : cellsOf m (.ag cs) = some cs := by subst h; simp [cellsOf]
theorem cellsOf_i (k : IntKind) (n : Int) : cellsOf 1 (.i k n) = some [.i k n] := rfl
theorem cellsOf_b (t : Bool) : cellsOf 1 (.b t) = some [.b t] := rfl
theorem cellsOf_sl (cs : List AV) (n : Nat) : cellsOf 1 (.sl cs n) = some [.sl cs n] := rfl
theorem cellsOf_z : cellsOf 1 .z = some [.z] := rfl
theorem cellsOf_ie (t : Nat) (cs : List AV) : cellsOf 1 (.ie t cs) = some [.ie t cs] := rfl
theorem cellsOf_er (g : Nat) : cellsOf 1 (.er g) = some [.er g] := rfl
theorem cellsOf_nl : cellsOf 1 .nl = some [.nl] := rfl
theorem cellsOf_np : cellsOf 1 .np = some [.np] := rfl
theorem cellsOf_s (t : ByteArray) : cellsOf 1 (.s t) = some [.s t] := rfl
theorem mkSV_of {zero : List AV} {bytes : Nat} {n : Int} (h0 : 0 ≤ n) (h1 : n * bytes ≤ 140737488355328) : mkSV zero bytes (.i .i64 n) (.i .i64 n) = some (.sl (zrep zero n.toNat) n.toNat) := by
  have : n.toNat * bytes ≤ 140737488355328 := by
    have e : (n.toNat : Int) = n := Int.toNat_of_nonneg h0
    have : ((n.toNat * bytes : Nat) : Int) ≤ 140737488355328 := by rw [Int.natCast_mul, e]; exact h1
    omega
  simp [mkSV, h0, this]
theorem mkRS_of {S : St} {d : Nat} {zero : List AV} {bytes : Nat} {n m : Int} (h0 : 0 ≤ n) (h2 : n ≤ m) (h1 : m * bytes ≤ 140737488355328) : mkRS S (some d) () zero bytes (.i .i64 n) (.i .i64 m) = some (S.root d (zrep zero n.toNat) (.rs d 0 n.toNat zero.length)) := by
  have : m.toNat * bytes ≤ 140737488355328 := by
    have e : (m.toNat : Int) = m := Int.toNat_of_nonneg (by omega)
    have : ((m.toNat * bytes : Nat) : Int) ≤ 140737488355328 := by rw [Int.natCast_mul, e]; exact h1
    omega
  simp [mkRS, h0, h2, this]

/-! ### Numbers as cells -/

/-- The number at a place; behind the end, 0. -/
def ni (L : List Int) (j : Nat) : Int := L.getD j 0
def nb (L : List Bool) (j : Nat) : Bool := L.getD j false
def nv (L : List (List Int)) (j : Nat) : List Int := L.getD j []
theorem ni_get {L : List Int} {j : Nat} (h : j < L.length) : ni L j = L[j] := by simp [ni, h]
theorem nb_get {L : List Bool} {j : Nat} (h : j < L.length) : nb L j = L[j] := by simp [nb, h]
theorem nv_get {L : List (List Int)} {j : Nat} (h : j < L.length) : nv L j = L[j] := by simp [nv, h]

def nums (k : IntKind) (L : List Int) : List AV := L.map (.i k)
theorem nums_length (k : IntKind) (L : List Int) : (nums k L).length = L.length := by simp [nums]
theorem nums_nil (k : IntKind) : nums k [] = [] := rfl
theorem nums_cons (k : IntKind) (x : Int) (L : List Int) : nums k (x :: L) = .i k x :: nums k L := rfl
theorem nums_get {k : IntKind} {L : List Int} {j : Nat} (h : j < L.length) : (nums k L)[j]? = some (.i k (ni L j)) := by
  simp [nums, ni, h]
theorem nums_set (k : IntKind) (L : List Int) (j : Nat) (v : Int) : (nums k L).set j (.i k v) = nums k (L.set j v) := by
  simp [nums, List.map_set]
theorem nums_append (k : IntKind) (L M : List Int) : nums k L ++ nums k M = nums k (L ++ M) := by simp [nums]
theorem nums_snoc (k : IntKind) (L : List Int) (v : Int) : nums k L ++ [.i k v] = nums k (L ++ [v]) := by simp [nums]
theorem nums_drop (k : IntKind) (L : List Int) (n : Nat) : (nums k L).drop n = nums k (L.drop n) := by simp [nums, List.map_drop]
theorem nums_take (k : IntKind) (L : List Int) (n : Nat) : (nums k L).take n = nums k (L.take n) := by simp [nums, List.map_take]
theorem nums_zrep (k : IntKind) (v : Int) (n : Nat) : zrep [.i k v] n = nums k (List.replicate n v) := by
  simp [zrep, nums]
theorem nums_hasSl (k : IntKind) : ∀ (L : List Int), hasSlL (nums k L) = false
  | [] => rfl
  | x :: L => by simp only [nums_cons, hasSlL, hasSl1, Bool.false_or]; exact nums_hasSl k L

/-- A list of numbers as a slice. -/
abbrev slv (k : IntKind) (L : List Int) : AV := .sl (nums k L) L.length

def bools (L : List Bool) : List AV := L.map .b
theorem bools_length (L : List Bool) : (bools L).length = L.length := by simp [bools]
theorem bools_nil : bools [] = [] := rfl
theorem bools_cons (x : Bool) (L : List Bool) : bools (x :: L) = .b x :: bools L := rfl
theorem bools_get {L : List Bool} {j : Nat} (h : j < L.length) : (bools L)[j]? = some (.b (nb L j)) := by simp [bools, nb, h]
theorem bools_set (L : List Bool) (j : Nat) (v : Bool) : (bools L).set j (.b v) = bools (L.set j v) := by simp [bools, List.map_set]
theorem bools_snoc (L : List Bool) (v : Bool) : bools L ++ [.b v] = bools (L ++ [v]) := by simp [bools]
theorem bools_zrep (v : Bool) (n : Nat) : zrep [.b v] n = bools (List.replicate n v) := by simp [zrep, bools]
theorem bools_hasSl : ∀ (L : List Bool), hasSlL (bools L) = false
  | [] => rfl
  | x :: L => by simp only [bools_cons, hasSlL, hasSl1, Bool.false_or]; exact bools_hasSl L

/-! ### Slices of slices -/

def vecs (k : IntKind) (L : List (List Int)) : List AV := L.map (slv k)
theorem vecs_length (k : IntKind) (L : List (List Int)) : (vecs k L).length = L.length := by simp [vecs]
theorem vecs_nil (k : IntKind) : vecs k [] = [] := rfl
theorem vecs_cons (k : IntKind) (x : List Int) (L : List (List Int)) : vecs k (x :: L) = slv k x :: vecs k L := rfl
theorem vecs_get {k : IntKind} {L : List (List Int)} {j : Nat} (h : j < L.length) : (vecs k L)[j]? = some (slv k (nv L j)) := by simp [vecs, nv, h]
theorem vecs_snoc (k : IntKind) (L : List (List Int)) (v : List Int) : vecs k L ++ [slv k v] = vecs k (L ++ [v]) := by simp [vecs]

/-! ### Slicing -/

def idxO (n : Nat) : Option AV → Option Nat | none => some n | some v => idx v
theorem slcV_sl {sz : Nat} {cs : List AV} {n l h : Nat} {lo hi : Option AV} (h1 : idxO 0 lo = some l) (h2 : idxO n hi = some h) (h3 : l ≤ h) (h4 : h ≤ n) : slcV sz (.sl cs n) lo hi none = some (.sl ((cs.drop (l * sz)).take ((h - l) * sz)) (h - l)) := by
  have e : (Nat.ble l h && Nat.ble h n) = true := by simp [h3, h4]
  have e2 : Nat.ble n n = true := by simp
  have e3 : ∀ k, Nat.ble 0 k = true := fun k => by simp
  have e4 : Nat.ble l h = true := by simp [h3]
  have e5 : Nat.ble h n = true := by simp [h4]
  cases lo <;> cases hi <;> simp only [idxO, Option.some.injEq] at h1 h2
  · subst h1; subst h2; simp [slcV, e2, e3]
  · subst h1; simp [slcV, h2, e3, e5]
  · subst h2; simp [slcV, h1, e2, e4]
  · simp [slcV, h1, h2, e4, e5]


/-! ### What is flat goes as it is -/

section
variable {x : AV} (h : x.flat = true)
include h
theorem fl_map (f : AV → AV) : x.mapR f = f x := by cases x <;> first | rfl | cases h
theorem fl_kill (d : Nat) : kill1 d x = x := by cases x <;> first | rfl | cases h
theorem fl_frz (d : Nat) (cs : List AV) : frz1 d cs x = x := by cases x <;> first | rfl | cases h
theorem fl_rs1 : rs1 x = [] := by cases x <;> first | rfl | cases h
theorem fl_frz2 (d : Nat) (cs : List AV) : frz2 d cs x = x := by cases x <;> first | rfl | cases h
theorem fl_slot (j : Nat) : slotOf j x = x := by cases x <;> first | rfl | cases h
theorem fl_argRows (j : Nat) : argRows j x = [] := by cases x <;> first | rfl | cases h
theorem fl_partN (j k : Nat) : partN j k x = x := by cases x <;> first | rfl | cases h
theorem fl_lentRows (j : Nat) : lentRows j x = [] := by cases x <;> first | rfl | cases h
theorem fl_scat (D o : Nat) : scat1 D o x = x := by cases x <;> first | rfl | cases h
theorem fl_rows1 (D o : Nat) : rows1 D o x = [] := by cases x <;> first | rfl | cases h
theorem fl_lentA (l : List (Nat × List AV)) (j : Nat) : lentA l j x = some ([], []) := by cases x <;> first | rfl | cases h
theorem fl_lentR (l : List (Nat × List AV)) (j : Nat) : lentR l j x = some ([], []) := by cases x <;> first | rfl | cases h
theorem fl_rootsA (j : Nat) : rootsA j x = [] := by cases x <;> first | rfl | cases h
theorem fl_rootsR (j : Nat) : rootsR j x = [] := by cases x <;> first | rfl | cases h
theorem fl_childA (j : Nat) : childA j x = [] := by cases x <;> first | rfl | cases h
theorem fl_childR (j : Nat) : childR j x = [] := by cases x <;> first | rfl | cases h
theorem fl_toArg (l : List (Nat × List AV)) : toArg l x = some x := by cases x <;> first | rfl | cases h
theorem fl_lendP (l : List (Nat × List AV)) : lendP l x = some (x, [], []) := by cases x <;> first | rfl | cases h
theorem fl_lend1 (mv : List Nat) (l : List (Nat × List AV)) : lend1 mv l x = some (x, [], []) := by cases x <;> first | rfl | cases h
theorem fl_viewL (l : List (Nat × List AV)) (r : List AV) : viewL l (x :: r) = (viewL l r).map (x :: ·) := by
  cases x <;> first | (cases h; done) | (simp only [viewL, AV.flat, cond_true]; cases viewL l r <;> rfl)
theorem fl_frzP (r : List AV) : frzP (x :: r) = (frzP r).map (x :: ·) := by
  cases x <;> first | (cases h; done) | (simp only [frzP, AV.flat, cond_true]; cases frzP r <;> rfl)
theorem fl_isRs (mv : List Nat) : isRs mv x = false := by cases x <;> first | rfl | cases h
theorem fl_isRs0 : isRs0 x = false := by cases x <;> first | rfl | cases h
theorem fl_toRet (np : Nat) (l : List (Nat × List AV)) (all : List AV) : toRet np l all x = some (x, [], []) := by cases x <;> first | rfl | cases h
theorem fl_gath (l : List (Nat × List AV)) : gath1 l x = some (x, []) := by cases x <;> first | rfl | cases h
theorem fl_cellQ : x.cellQ = true := by cases x <;> first | rfl | cases h
theorem fl_cellsQ : cellsQ 1 x = some [x] := by cases x <;> first | rfl | cases h
theorem fl_take1 (D : Nat) : take1 D x = some (x, []) := by cases x <;> first | rfl | cases h
theorem fl_sees0 (ds : List Nat) (r : List AV) : sees0 ds (x :: r) = sees0 ds r := by cases x <;> first | rfl | cases h
theorem fl_seesAny (mv ds : List Nat) (r : List AV) : seesAny mv ds (x :: r) = seesAny mv ds r := by cases x <;> first | rfl | cases h
theorem fl_namesNot (ds : List Nat) (r : List AV) : namesNot ds (x :: r) = namesNot ds r := by cases x <;> first | rfl | cases h
theorem fl_plain : plain x = true := by cases x <;> first | rfl | cases h
theorem fl_anyOs (r : List AV) : anyOs (x :: r) = anyOs r := by cases x <;> first | rfl | cases h
theorem fl_from1 : fromRet1 x = some x := by cases x <;> first | rfl | cases h
theorem fl_from : fromRet x = some x := by cases x <;> first | rfl | cases h
theorem fl_cells : cellsOf 1 x = some [x] := by cases x <;> first | rfl | cases h
theorem fl_countR (d : Nat) (r : List AV) : countR d (x :: r) = countR d r := by cases x <;> first | rfl | cases h
end

/-- A slice of numbers, or none. -/
def IsL (k : IntKind) (x : AV) (L : List Int) : Prop := x = slv k L ∨ (x = .z ∧ L = [])
section
variable {k : IntKind} {x : AV} {L : List Int}
theorem IsL.mk (k : IntKind) (L : List Int) : IsL k (slv k L) L := .inl rfl
theorem IsL.none (k : IntKind) : IsL k .z [] := .inr ⟨rfl, rfl⟩
theorem IsL.flat (h : IsL k x L) : x.flat = true := by rcases h with rfl | ⟨rfl, _⟩ <;> rfl
theorem lenV_isL (h : IsL k x L) : lenV x = some (.i .i64 L.length) := by rcases h with rfl | ⟨rfl, rfl⟩ <;> rfl
theorem ixSV_isL (h : IsL k x L) {k' : IntKind} {j : Int} (h0 : 0 ≤ j) (h1 : j < L.length) : ixSV 1 x (.i k' j) = some (.el (nums k L) j.toNat) := by
  rcases h with rfl | ⟨rfl, rfl⟩
  · rw [ixSV_sl h0 h1 (by rw [nums_length]; omega), Nat.mul_one]
  · simp at h1; omega
end

/-- A number of its kind. -/
def inK (k : IntKind) (n : Int) : Prop := k.min ≤ n ∧ n ≤ k.max
theorem inK_i64 {n : Int} (h : inK .i64 n) : -9223372036854775808 ≤ n ∧ n ≤ 9223372036854775807 := h

end Zab

namespace Zab
open Go
set_option linter.unusedVariables false
set_option linter.unusedSimpArgs false
abbrev E1 (P : AV → Prop) : Prop := (∀ (k : IntKind) (n : Int), P (.i k n)) ∧ (∀ (t : Bool), P (.b t)) ∧ (∀ (t : ByteArray), P (.s t)) ∧ P .nl ∧ P .np ∧ P .nf ∧ (∀ (g : Nat), P (.er g)) ∧ (∀ (t : Nat) (cs : List AV), P (.ie t cs)) ∧ (∀ (cs : List AV) (n : Nat), P (.sl cs n)) ∧ P .z
abbrev E2 (P : AV → Prop) : Prop := P .un ∧ P .gone ∧ (∀ (g : Nat), P (.gl g))
abbrev E3 (P : AV → Prop) : Prop := (∀ (cs : List AV), P (.ag cs)) ∧ (∀ (l : List AV), P (.tp l)) ∧ (∀ (cs : List AV) (j' : Nat), P (.el cs j'))
abbrev E4 (P : AV → Prop) : Prop := (∀ (e o : Nat), P (.rf e o)) ∧ (∀ (e o n sz : Nat), P (.rs e o n sz))
abbrev E5 (P : AV → Prop) : Prop := (∀ (cs : List AV) (n sz : Nat), P (.os cs n sz)) ∧ (∀ (cs : List AV), P (.op cs)) ∧ (∀ (cs : List AV), P (.oq cs))
abbrev E6 (P : AV → Prop) : Prop := (∀ (cs : List AV), P (.aq cs)) ∧ (∀ (g : Nat) (l : List AV), P (.fn g l))
theorem flat_eqs  : (E1 fun x => AV.flat x = true) ∧
    (E2 fun x => AV.flat x = false) ∧
    (E3 fun x => AV.flat x = false) ∧
    (E4 fun x => AV.flat x = false) ∧
    (E5 fun x => AV.flat x = false) ∧
    (E6 fun x => AV.flat x = false) := by
  repeat' apply And.intro
  all_goals (intros; first | rfl | (simp only [kill1, frz1, frz2, List.isEmpty_iff, countR, Bool.cond_eq_ite, Nat.beq_eq]))

theorem cellQ_eqs  : (E1 fun x => AV.cellQ x = true) ∧
    (E3 fun x => AV.cellQ x = false) ∧
    (E4 fun x => AV.cellQ x = true) ∧
    (E5 fun x => AV.cellQ x = false) ∧
    (E6 fun x => AV.cellQ x = false) ∧
    (AV.cellQ .un = false) ∧
    (AV.cellQ .gone = true) ∧
    (∀ (g : Nat), AV.cellQ (.gl g) = false) := by
  repeat' apply And.intro
  all_goals (intros; first | rfl | (simp only [kill1, frz1, frz2, List.isEmpty_iff, countR, Bool.cond_eq_ite, Nat.beq_eq]))

theorem plain_eqs  : (E1 fun x => plain x = true) ∧
    (E2 fun x => plain x = true) ∧
    (E4 fun x => plain x = true) ∧
    (E5 fun x => plain x = true) ∧
    (∀ (cs : List AV), plain (.ag cs) = true) ∧
    (∀ (cs : List AV), plain (.aq cs) = false) ∧
    (∀ (l : List AV), plain (.tp l) = false) ∧
    (∀ (cs : List AV) (j' : Nat), plain (.el cs j') = true) ∧
    (∀ (g : Nat), plain (.fn g []) = true) ∧
    (∀ (g : Nat) (y : AV) (l : List AV), plain (.fn g (y :: l)) = false) := by
  repeat' apply And.intro
  all_goals (intros; first | rfl | (simp only [kill1, frz1, frz2, List.isEmpty_iff, countR, Bool.cond_eq_ite, Nat.beq_eq]))

theorem mapR_eqs (f : AV → AV) : (E1 fun x => AV.mapR f x = f x) ∧
    (E2 fun x => AV.mapR f x = f x) ∧
    (E4 fun x => AV.mapR f x = f x) ∧
    (E5 fun x => AV.mapR f x = f x) ∧
    (∀ (cs : List AV), AV.mapR f (.ag cs) = f (.ag cs)) ∧
    (∀ (cs : List AV), AV.mapR f (.aq cs) = .aq (cs.map f)) ∧
    (∀ (l : List AV), AV.mapR f (.tp l) = .tp (l.map f)) ∧
    (∀ (cs : List AV) (j' : Nat), AV.mapR f (.el cs j') = f (.el cs j')) ∧
    (∀ (g : Nat) (l : List AV), AV.mapR f (.fn g l) = .fn g (l.map f)) := by
  repeat' apply And.intro
  all_goals (intros; first | rfl | (simp only [kill1, frz1, frz2, List.isEmpty_iff, countR, Bool.cond_eq_ite, Nat.beq_eq]))

theorem kill1_eqs (d : Nat) : (E1 fun x => kill1 d x = x) ∧
    (E2 fun x => kill1 d x = x) ∧
    (E5 fun x => kill1 d x = x) ∧
    (∀ (cs : List AV), kill1 d (.ag cs) = (.ag cs)) ∧
    (∀ (cs : List AV), kill1 d (.aq cs) = .gone) ∧
    (∀ (l : List AV), kill1 d (.tp l) = .gone) ∧
    (∀ (e o : Nat), kill1 d (.rf e o) = (if e = d then .gone else .rf e o)) ∧
    (∀ (e o n sz : Nat), kill1 d (.rs e o n sz) = (if e = d then .gone else .rs e o n sz)) ∧
    (∀ (cs : List AV) (j' : Nat), kill1 d (.el cs j') = (.el cs j')) ∧
    (∀ (g : Nat), kill1 d (.fn g []) = (.fn g [])) ∧
    (∀ (g : Nat) (y : AV) (l : List AV), kill1 d (.fn g (y :: l)) = .gone) := by
  repeat' apply And.intro
  all_goals (intros; first | rfl | (simp only [kill1, frz1, frz2, List.isEmpty_iff, countR, Bool.cond_eq_ite, Nat.beq_eq]))

theorem frz1_eqs (d : Nat) (ds : List AV) : (E1 fun x => frz1 d ds x = x) ∧
    (E2 fun x => frz1 d ds x = x) ∧
    (E5 fun x => frz1 d ds x = x) ∧
    (∀ (cs : List AV), frz1 d ds (.ag cs) = (.ag cs)) ∧
    (∀ (cs : List AV), frz1 d ds (.aq cs) = .gone) ∧
    (∀ (l : List AV), frz1 d ds (.tp l) = .gone) ∧
    (∀ (e o : Nat), frz1 d ds (.rf e o) = (bif Nat.beq e d then .gone else .rf e o)) ∧
    (∀ (e o n sz : Nat), frz1 d ds (.rs e o n sz) = (if e = d then .sl ((ds.drop o).take (n * sz)) n else .rs e o n sz)) ∧
    (∀ (cs : List AV) (j' : Nat), frz1 d ds (.el cs j') = (.el cs j')) ∧
    (∀ (g : Nat), frz1 d ds (.fn g []) = (.fn g [])) ∧
    (∀ (g : Nat) (y : AV) (l : List AV), frz1 d ds (.fn g (y :: l)) = .gone) := by
  repeat' apply And.intro
  all_goals (intros; first | rfl | (simp only [kill1, frz1, frz2, List.isEmpty_iff, countR, Bool.cond_eq_ite, Nat.beq_eq]))

theorem rs1_eqs  : (E1 fun x => rs1 x = []) ∧
    (E2 fun x => rs1 x = []) ∧
    (E3 fun x => rs1 x = []) ∧
    (E5 fun x => rs1 x = []) ∧
    (E6 fun x => rs1 x = []) ∧
    (∀ (e o : Nat), rs1 (.rf e o) = []) ∧
    (∀ (e o n sz : Nat), rs1 (.rs e o n sz) = [e]) := by
  repeat' apply And.intro
  all_goals (intros; first | rfl | (simp only [kill1, frz1, frz2, List.isEmpty_iff, countR, Bool.cond_eq_ite, Nat.beq_eq]))

theorem frz2_eqs (d : Nat) (ds : List AV) : (E1 fun x => frz2 d ds x = x) ∧
    (E2 fun x => frz2 d ds x = x) ∧
    (E5 fun x => frz2 d ds x = x) ∧
    (∀ (cs : List AV), frz2 d ds (.ag cs) = (.ag cs)) ∧
    (∀ (cs : List AV), frz2 d ds (.aq cs) = .gone) ∧
    (∀ (l : List AV), frz2 d ds (.tp l) = .gone) ∧
    (∀ (e o : Nat), frz2 d ds (.rf e o) = (if e = d then (if ds = [] then .gone else .el ds o) else .rf e o)) ∧
    (∀ (e o n sz : Nat), frz2 d ds (.rs e o n sz) = (if e = d then .sl ((ds.drop o).take (n * sz)) n else .rs e o n sz)) ∧
    (∀ (cs : List AV) (j' : Nat), frz2 d ds (.el cs j') = (.el cs j')) ∧
    (∀ (g : Nat), frz2 d ds (.fn g []) = (.fn g [])) ∧
    (∀ (g : Nat) (y : AV) (l : List AV), frz2 d ds (.fn g (y :: l)) = .gone) := by
  repeat' apply And.intro
  all_goals (intros; first | rfl | (simp only [kill1, frz1, frz2, List.isEmpty_iff, countR, Bool.cond_eq_ite, Nat.beq_eq]))

theorem nbeq_dec (a b : Nat) : Nat.beq a b = decide (a = b) := by rw [Bool.eq_iff_iff, Nat.beq_eq, decide_eq_true_iff]
theorem nble_dec (a b : Nat) : Nat.ble a b = decide (a ≤ b) := by rw [Bool.eq_iff_iff, Nat.ble_eq, decide_eq_true_iff]
theorem nblt_dec (a b : Nat) : Nat.blt a b = decide (a < b) := by rw [Bool.eq_iff_iff, Nat.blt_eq, decide_eq_true_iff]
theorem enterS_nil (j : Nat) : enterS j [] = [] := rfl
theorem enterS_cons (j : Nat) (x : AV) (r : List AV) : enterS j (x :: r) = (j, slotOf j x) :: enterS (j + 1) r := rfl
theorem enterL_nil (j : Nat) : enterL j [] = [] := rfl
theorem enterL_cons (j : Nat) (x : AV) (r : List AV) : enterL j (x :: r) = argRows j x ++ enterL (j + 1) r := rfl
theorem partsN_nil (j k : Nat) : partsN j k [] = [] := rfl
theorem partsN_cons (j k : Nat) (x : AV) (r : List AV) : partsN j k (x :: r) = partN j k x :: partsN j (k + 1) r := rfl
theorem partRows_nil (j k : Nat) : partRows j k [] = [] := rfl
theorem partRows_cons (j k : Nat) (x : AV) (r : List AV) : partRows j k (x :: r) = lentRows (partId j k) x ++ partRows j (k + 1) r := rfl
theorem scatL_nil (D o : Nat) : scatL D o [] = [] := rfl
theorem scatL_cons (D o : Nat) (x : AV) (r : List AV) : scatL D o (x :: r) = scat1 D o x :: scatL D (o + 1) r := rfl
theorem rowsL_nil (D o : Nat) : rowsL D o [] = [] := rfl
theorem rowsL_cons (D o : Nat) (x : AV) (r : List AV) : rowsL D o (x :: r) = rows1 D o x ++ rowsL D (o + 1) r := rfl
theorem keys_nil : keys [] = [] := rfl
theorem keys_cons (j : Nat) (cs : List AV) (r : List (Nat × List AV)) : keys ((j, cs) :: r) = j :: keys r := rfl
theorem rootsP_nil (j k : Nat) : rootsP j k [] = [] := rfl
theorem rootsP_cons (j k : Nat) (x : AV) (r : List AV) : rootsP j k (x :: r) = rootsR (partId j k) x ++ rootsP j (k + 1) r := rfl
theorem rootsIn_nil (j : Nat) : rootsIn j [] = [] := rfl
theorem rootsIn_cons (j : Nat) (x : AV) (r : List AV) : rootsIn j (x :: r) = rootsA j x ++ rootsIn (j + 1) r := rfl
theorem childP_nil (j k : Nat) : childP j k [] = [] := rfl
theorem childP_cons (j k : Nat) (x : AV) (r : List AV) : childP j k (x :: r) = childR (partId j k) x ++ childP j (k + 1) r := rfl
theorem childIn_nil (j : Nat) : childIn j [] = [] := rfl
theorem childIn_cons (j : Nat) (x : AV) (r : List AV) : childIn j (x :: r) = childA j x ++ childIn (j + 1) r := rfl
theorem okFin_eq (np : Nat) (h s : List Nat) : okFin np h s = (nodupB h && (noRoots np h && apart h s)) := rfl
def okE0 (b : Bool) (vs : List AV) : Bool := match b with | false => true | true => nodupB (keys (enterL 0 vs)) && (allRoot vs.length (rootsIn 0 vs) && (allCh (childIn 0 vs) && kindsOk [] (rootsIn 0 vs)))
theorem okE0_f (vs : List AV) : okE0 false vs = true := rfl
theorem okE0_t (vs : List AV) : okE0 true vs = (nodupB (keys (enterL 0 vs)) && (allRoot vs.length (rootsIn 0 vs) && (allCh (childIn 0 vs) && kindsOk [] (rootsIn 0 vs)))) := rfl
theorem okEnter_nil (vs : List AV) : okEnter [] vs = okE0 (anyOs vs) vs := by
  unfold okEnter okE0; cases anyOs vs <;> simp
theorem mvOf_nil : mvOf [] = [] := rfl
theorem mvOf_cons (a b : Nat) (r : List (Nat × Nat)) : mvOf ((a, b) :: r) = if a = 40 then b :: mvOf r else if a = 41 then mvOf r else [] := by simp only [mvOf, Bool.cond_eq_ite, Nat.beq_eq]
theorem nolOf_nil : nolOf [] = [] := rfl
theorem nolOf_cons (a b : Nat) (r : List (Nat × Nat)) : nolOf ((a, b) :: r) = if a = 41 then b :: nolOf r else if a = 40 then nolOf r else [] := by simp only [nolOf, Bool.cond_eq_ite, Nat.beq_eq]
theorem awayB_nil (ds : List Nat) : awayB ds [] = true := rfl
theorem awayB_cons (ds : List Nat) (x : Nat) (r : List Nat) : awayB ds (x :: r) = (!memb ds x && awayB ds r) := rfl
theorem unmv_nil : unmv [] = [] := rfl
theorem unmv_cons (a b : Nat) (r : List (Nat × Nat)) : unmv ((a, b) :: r) = if a = 40 ∨ a = 41 then unmv r else (a, b) :: r := by simp only [unmv, Bool.cond_eq_ite, Bool.or_eq_true, Nat.beq_eq]
theorem okEnter_cons (d : Nat) (ds : List Nat) (vs : List AV) : okEnter (d :: ds) vs = (nodupB (keys (enterL 0 vs)) && (allRoot vs.length (rootsIn 0 vs) && (allCh (childIn 0 vs) && kindsOk (d :: ds) (rootsIn 0 vs)))) := rfl
theorem nodupB_nil : nodupB [] = true := rfl
theorem nodupB_cons (x : Nat) (r : List Nat) : nodupB (x :: r) = (!memb r x && nodupB r) := rfl
theorem allRoot_nil (np : Nat) : allRoot np [] = true := rfl
theorem allRoot_cons (np d : Nat) (r : List Nat) : allRoot np (d :: r) = (rootB np d && allRoot np r) := rfl
theorem noRoots_nil (np : Nat) : noRoots np [] = true := rfl
theorem noRoots_cons (np d : Nat) (r : List Nat) : noRoots np (d :: r) = (!rootB np d && noRoots np r) := rfl
theorem apart_nil (l : List Nat) : apart l [] = true := rfl
theorem apart_cons (l : List Nat) (x : Nat) (r : List Nat) : apart l (x :: r) = (!memb l x && apart l r) := rfl
theorem allCh_nil : allCh [] = true := rfl
theorem allCh_cons (j : Nat) (r : List Nat) : allCh (j :: r) = (chB j && allCh r) := rfl
theorem kindsOk_nil : kindsOk [] [] = true := rfl
theorem kindsOk_cons (d : Nat) (ds : List Nat) (e : Nat) (es : List Nat) : kindsOk (d :: ds) (e :: es) = ((isRef d == isRef e) && kindsOk ds es) := rfl
theorem rootB_eq (np d : Nat) : rootB np d = (decide (d % 1000000000000 < np) || (decide (1000000 ≤ d % 1000000000000) && decide (d % 1000000000000 < 1000000000))) := by
  have h1 : Nat.blt (d % 1000000000000) np = decide (d % 1000000000000 < np) := by rw [Bool.eq_iff_iff, Nat.blt_eq, decide_eq_true_iff]
  have h2 : Nat.ble 1000000 (d % 1000000000000) = decide (1000000 ≤ d % 1000000000000) := by rw [Bool.eq_iff_iff, Nat.ble_eq, decide_eq_true_iff]
  have h3 : Nat.blt (d % 1000000000000) 1000000000 = decide (d % 1000000000000 < 1000000000) := by rw [Bool.eq_iff_iff, Nat.blt_eq, decide_eq_true_iff]
  rw [rootB, h1, h2, h3]
theorem chB_eq (j : Nat) : chB j = (decide (1000000000 ≤ j) && decide (j < 1000000000000)) := by
  have h2 : Nat.ble 1000000000 j = decide (1000000000 ≤ j) := by rw [Bool.eq_iff_iff, Nat.ble_eq, decide_eq_true_iff]
  have h3 : Nat.blt j 1000000000000 = decide (j < 1000000000000) := by rw [Bool.eq_iff_iff, Nat.blt_eq, decide_eq_true_iff]
  rw [chB, h2, h3]
theorem isRef_eq (d : Nat) : isRef d = decide (1000000000000 ≤ d) := by
  rw [isRef, Bool.eq_iff_iff, Nat.ble_eq, decide_eq_true_iff]
theorem child_eq (d o : Nat) : child d o = 1000000000 * (o + 1) + d % 1000000000000 := rfl
theorem partId_eq (j k : Nat) : partId j k = 1000000 * (k + 1) + j := rfl


theorem slotOf_eqs (j : Nat) : (E1 fun x => slotOf j x = x) ∧
    (E2 fun x => slotOf j x = x) ∧
    (E3 fun x => slotOf j x = x) ∧
    (E4 fun x => slotOf j x = x) ∧
    (∀ (cs : List AV) (n sz : Nat), slotOf j (.os cs n sz) = .rs (1000000000 + j) 0 n sz) ∧
    (∀ (cs : List AV), slotOf j (.op cs) = .rf j 0) ∧
    (∀ (cs : List AV), slotOf j (.oq cs) = .rf (1000000000000 + j) 0) ∧
    (∀ (cs : List AV), slotOf j (.aq cs) = .aq (partsN j 0 cs)) ∧
    (∀ (g : Nat) (l : List AV), slotOf j (.fn g l) = .fn g (partsN j 0 l)) := by
  repeat' apply And.intro
  all_goals (intros; first | rfl | (simp only [kill1, frz1, frz2, List.isEmpty_iff, countR, Bool.cond_eq_ite, Nat.beq_eq]))

theorem partN_eqs (j k0 : Nat) : (E1 fun x => partN j k0 x = x) ∧
    (E2 fun x => partN j k0 x = x) ∧
    (E3 fun x => partN j k0 x = x) ∧
    (E4 fun x => partN j k0 x = x) ∧
    (E6 fun x => partN j k0 x = x) ∧
    (∀ (cs : List AV) (n sz : Nat), partN j k0 (.os cs n sz) = (.os cs n sz)) ∧
    (∀ (cs : List AV), partN j k0 (.op cs) = .rf (partId j k0) 0) ∧
    (∀ (cs : List AV), partN j k0 (.oq cs) = .rf (1000000000000 + partId j k0) 0) := by
  repeat' apply And.intro
  all_goals (intros; first | rfl | (simp only [kill1, frz1, frz2, List.isEmpty_iff, countR, Bool.cond_eq_ite, Nat.beq_eq]))

theorem lentRows_eqs (j : Nat) : (E1 fun x => lentRows j x = []) ∧
    (E2 fun x => lentRows j x = []) ∧
    (E3 fun x => lentRows j x = []) ∧
    (E4 fun x => lentRows j x = []) ∧
    (E6 fun x => lentRows j x = []) ∧
    (∀ (cs : List AV) (n sz : Nat), lentRows j (.os cs n sz) = []) ∧
    (∀ (cs : List AV), lentRows j (.op cs) = [(j, cs)]) ∧
    (∀ (cs : List AV), lentRows j (.oq cs) = (1000000000000 + j, scatL (1000000000000 + j) 0 cs) :: rowsL (1000000000000 + j) 0 cs) := by
  repeat' apply And.intro
  all_goals (intros; first | rfl | (simp only [kill1, frz1, frz2, List.isEmpty_iff, countR, Bool.cond_eq_ite, Nat.beq_eq]))

theorem argRows_eqs (j : Nat) : (E1 fun x => argRows j x = []) ∧
    (E2 fun x => argRows j x = []) ∧
    (E3 fun x => argRows j x = []) ∧
    (E4 fun x => argRows j x = []) ∧
    (∀ (cs : List AV) (n sz : Nat), argRows j (.os cs n sz) = [(1000000000 + j, cs)]) ∧
    (∀ (cs : List AV), argRows j (.op cs) = [(j, cs)]) ∧
    (∀ (cs : List AV), argRows j (.oq cs) = (1000000000000 + j, scatL (1000000000000 + j) 0 cs) :: rowsL (1000000000000 + j) 0 cs) ∧
    (∀ (cs : List AV), argRows j (.aq cs) = partRows j 0 cs) ∧
    (∀ (g : Nat) (l : List AV), argRows j (.fn g l) = partRows j 0 l) := by
  repeat' apply And.intro
  all_goals (intros; first | rfl | (simp only [kill1, frz1, frz2, List.isEmpty_iff, countR, Bool.cond_eq_ite, Nat.beq_eq]))

theorem scat1_eqs (D p : Nat) : (E1 fun x => scat1 D p x = x) ∧
    (E2 fun x => scat1 D p x = x) ∧
    (E3 fun x => scat1 D p x = x) ∧
    (E4 fun x => scat1 D p x = x) ∧
    (E6 fun x => scat1 D p x = x) ∧
    (∀ (cs : List AV) (n sz : Nat), scat1 D p (.os cs n sz) = .rs (child D p) 0 n sz) ∧
    (∀ (cs : List AV), scat1 D p (.op cs) = .rf (child D p) 0) ∧
    (∀ (cs : List AV), scat1 D p (.oq cs) = (.oq cs)) := by
  repeat' apply And.intro
  all_goals (intros; first | rfl | (simp only [kill1, frz1, frz2, List.isEmpty_iff, countR, Bool.cond_eq_ite, Nat.beq_eq]))

theorem rows1_eqs (D p : Nat) : (E1 fun x => rows1 D p x = []) ∧
    (E2 fun x => rows1 D p x = []) ∧
    (E3 fun x => rows1 D p x = []) ∧
    (E4 fun x => rows1 D p x = []) ∧
    (E6 fun x => rows1 D p x = []) ∧
    (∀ (cs : List AV) (n sz : Nat), rows1 D p (.os cs n sz) = [(child D p, cs)]) ∧
    (∀ (cs : List AV), rows1 D p (.op cs) = [(child D p, cs)]) ∧
    (∀ (cs : List AV), rows1 D p (.oq cs) = []) := by
  repeat' apply And.intro
  all_goals (intros; first | rfl | (simp only [kill1, frz1, frz2, List.isEmpty_iff, countR, Bool.cond_eq_ite, Nat.beq_eq]))

theorem rootsR_eqs (j : Nat) : (E1 fun x => rootsR j x = []) ∧
    (E2 fun x => rootsR j x = []) ∧
    (E3 fun x => rootsR j x = []) ∧
    (E4 fun x => rootsR j x = []) ∧
    (E6 fun x => rootsR j x = []) ∧
    (∀ (cs : List AV) (n sz : Nat), rootsR j (.os cs n sz) = []) ∧
    (∀ (cs : List AV), rootsR j (.op cs) = [j]) ∧
    (∀ (cs : List AV), rootsR j (.oq cs) = [1000000000000 + j]) := by
  repeat' apply And.intro
  all_goals (intros; first | rfl | (simp only [kill1, frz1, frz2, List.isEmpty_iff, countR, Bool.cond_eq_ite, Nat.beq_eq]))

theorem rootsA_eqs (j : Nat) : (E1 fun x => rootsA j x = []) ∧
    (E2 fun x => rootsA j x = []) ∧
    (E3 fun x => rootsA j x = []) ∧
    (E4 fun x => rootsA j x = []) ∧
    (∀ (cs : List AV) (n sz : Nat), rootsA j (.os cs n sz) = []) ∧
    (∀ (cs : List AV), rootsA j (.op cs) = [j]) ∧
    (∀ (cs : List AV), rootsA j (.oq cs) = [1000000000000 + j]) ∧
    (∀ (cs : List AV), rootsA j (.aq cs) = rootsP j 0 cs) ∧
    (∀ (g : Nat) (l : List AV), rootsA j (.fn g l) = rootsP j 0 l) := by
  repeat' apply And.intro
  all_goals (intros; first | rfl | (simp only [kill1, frz1, frz2, List.isEmpty_iff, countR, Bool.cond_eq_ite, Nat.beq_eq]))

theorem childR_eqs (j : Nat) : (E1 fun x => childR j x = []) ∧
    (E2 fun x => childR j x = []) ∧
    (E3 fun x => childR j x = []) ∧
    (E4 fun x => childR j x = []) ∧
    (E6 fun x => childR j x = []) ∧
    (∀ (cs : List AV) (n sz : Nat), childR j (.os cs n sz) = []) ∧
    (∀ (cs : List AV), childR j (.op cs) = []) ∧
    (∀ (cs : List AV), childR j (.oq cs) = keys (rowsL (1000000000000 + j) 0 cs)) := by
  repeat' apply And.intro
  all_goals (intros; first | rfl | (simp only [kill1, frz1, frz2, List.isEmpty_iff, countR, Bool.cond_eq_ite, Nat.beq_eq]))

theorem childA_eqs (j : Nat) : (E1 fun x => childA j x = []) ∧
    (E2 fun x => childA j x = []) ∧
    (E3 fun x => childA j x = []) ∧
    (E4 fun x => childA j x = []) ∧
    (∀ (cs : List AV) (n sz : Nat), childA j (.os cs n sz) = [1000000000 + j]) ∧
    (∀ (cs : List AV), childA j (.op cs) = []) ∧
    (∀ (cs : List AV), childA j (.oq cs) = keys (rowsL (1000000000000 + j) 0 cs)) ∧
    (∀ (cs : List AV), childA j (.aq cs) = childP j 0 cs) ∧
    (∀ (g : Nat) (l : List AV), childA j (.fn g l) = childP j 0 l) := by
  repeat' apply And.intro
  all_goals (intros; first | rfl | (simp only [kill1, frz1, frz2, List.isEmpty_iff, countR, Bool.cond_eq_ite, Nat.beq_eq]))

theorem isRs0_eqs  : (E1 fun x => isRs0 x = false) ∧
    (E2 fun x => isRs0 x = false) ∧
    (E3 fun x => isRs0 x = false) ∧
    (E5 fun x => isRs0 x = false) ∧
    (E6 fun x => isRs0 x = false) ∧
    (∀ (e o : Nat), isRs0 (.rf e o) = false) ∧
    (∀ (e o n sz : Nat), isRs0 (.rs e o n sz) = true) := by
  repeat' apply And.intro
  all_goals (intros; first | rfl | (simp only [kill1, frz1, frz2, List.isEmpty_iff, countR, Bool.cond_eq_ite, Nat.beq_eq]))

theorem isRs_eqs (mv : List Nat) : (E1 fun x => isRs mv x = false) ∧
    (E2 fun x => isRs mv x = false) ∧
    (E3 fun x => isRs mv x = false) ∧
    (E5 fun x => isRs mv x = false) ∧
    (∀ (cs : List AV), isRs mv (.aq cs) = anyRs0 cs) ∧
    (∀ (e o : Nat), isRs mv (.rf e o) = false) ∧
    (∀ (e o n sz : Nat), isRs mv (.rs e o n sz) = !memb mv e) ∧
    (∀ (g : Nat) (l : List AV), isRs mv (.fn g l) = anyRs0 l) := by
  repeat' apply And.intro
  all_goals (intros; first | rfl | (simp only [kill1, frz1, frz2, List.isEmpty_iff, countR, Bool.cond_eq_ite, Nat.beq_eq]))

theorem anyRs0_nil : anyRs0 [] = false := rfl
theorem anyRs0_cons (x : AV) (r : List AV) : anyRs0 (x :: r) = (isRs0 x || anyRs0 r) := rfl
/-- An argument that is a row, seen. -/
def seenR (row : Option (List AV)) (off n sz : Nat) : Option AV :=
  match row with
  | some cs => bif Nat.ble (off + n * sz) cs.length then some (.sl ((cs.drop off).take (n * sz)) n) else none
  | none => none
theorem seenR_all {cs : List AV} {n sz : Nat} (h : cs.length = n * sz) : seenR (some cs) 0 n sz = some (.sl cs n) := by
  simp [seenR, ← h, show Nat.ble cs.length cs.length = true by simp]
theorem seenR_part {cs : List AV} {off n sz : Nat} (h : off + n * sz ≤ cs.length) (h0 : 0 < off ∨ n * sz < cs.length) : seenR (some cs) off n sz = some (.sl ((cs.drop off).take (n * sz)) n) := by
  have : Nat.ble (off + n * sz) cs.length = true := by rw [Nat.ble_eq]; exact h
  simp [seenR, this]
theorem viewR_look {L : List (Nat × List AV)} {d off n sz : Nat} : viewR L d off n sz = if d < 1000000000000 then seenR (look L d) off n sz else none := by
  unfold viewR seenR; rw [isRef_if]
  split
  · cases look L d <;> rfl
  · rfl
def agV (o : Option (List AV)) : Option AV := o.map .ag
theorem agV_some (cs : List AV) : agV (some cs) = some (.ag cs) := rfl
def consV (x : AV) (o : Option (List AV)) : Option (List AV) := o.map (x :: ·)
theorem consV_some (x : AV) (cs : List AV) : consV x (some cs) = some (x :: cs) := rfl
def consO (x : Option AV) (o : Option (List AV)) : Option (List AV) := match x, o with | some x, some o => some (x :: o) | _, _ => none
theorem consO_some (x : AV) (cs : List AV) : consO (some x) (some cs) = some (x :: cs) := rfl
theorem viewL_nil (L : List (Nat × List AV)) : viewL L [] = some [] := rfl
theorem viewL_rs (L : List (Nat × List AV)) (d off n sz : Nat) (r : List AV) : viewL L (.rs d off n sz :: r) = consO (viewR L d off n sz) (viewL L r) := by
  simp only [viewL, consO]; cases viewR L d off n sz <;> cases viewL L r <;> rfl
theorem viewL_fl (L : List (Nat × List AV)) {x : AV} (h : x.flat = true) (r : List AV) : viewL L (x :: r) = consV x (viewL L r) := fl_viewL h L r
theorem frzP_nil : frzP [] = some [] := rfl
theorem frzP_os (cs : List AV) (n sz : Nat) (r : List AV) : frzP (.os cs n sz :: r) = consV (.sl cs n) (frzP r) := by
  simp only [frzP, consV]; cases frzP r <;> rfl
theorem frzP_fl {x : AV} (h : x.flat = true) (r : List AV) : frzP (x :: r) = consV x (frzP r) := fl_frzP h r

theorem toArg_eqs (L : List (Nat × List AV)) : (E1 fun x => toArg L x = some x) ∧
    (E2 fun x => toArg L x = none) ∧
    (E5 fun x => toArg L x = none) ∧
    (∀ (cs : List AV), toArg L (.ag cs) = some (.ag cs)) ∧
    (∀ (cs : List AV), toArg L (.aq cs) = agV (viewL L cs)) ∧
    (∀ (l : List AV), toArg L (.tp l) = none) ∧
    (∀ (e o : Nat), toArg L (.rf e o) = none) ∧
    (∀ (e o n sz : Nat), toArg L (.rs e o n sz) = viewR L e o n sz) ∧
    (∀ (cs : List AV) (j' : Nat), toArg L (.el cs j') = some (.el cs j')) ∧
    (∀ (g : Nat), toArg L (.fn g []) = some (.fn g [])) ∧
    (∀ (g : Nat) (y : AV) (l : List AV), toArg L (.fn g (y :: l)) = none) := by
  repeat' apply And.intro
  all_goals (intros; first | rfl | (simp only [kill1, frz1, frz2, List.isEmpty_iff, countR, Bool.cond_eq_ite, Nat.beq_eq]))

theorem from1_eqs  : (E1 fun x => fromRet1 x = some x) ∧
    (E2 fun x => fromRet1 x = some x) ∧
    (E4 fun x => fromRet1 x = some x) ∧
    (∀ (cs : List AV) (n sz : Nat), fromRet1 (.os cs n sz) = some (.sl cs n)) ∧
    (∀ (cs : List AV), fromRet1 (.oq cs) = none) ∧
    (∀ (cs : List AV), fromRet1 (.ag cs) = some (.ag cs)) ∧
    (∀ (cs : List AV), fromRet1 (.aq cs) = agV (frzP cs)) ∧
    (∀ (l : List AV), fromRet1 (.tp l) = none) ∧
    (∀ (cs : List AV) (j' : Nat), fromRet1 (.el cs j') = some (.el cs j')) ∧
    (∀ (g : Nat), fromRet1 (.fn g []) = some (.fn g [])) ∧
    (∀ (g : Nat) (y : AV) (l : List AV), fromRet1 (.fn g (y :: l)) = none) := by
  repeat' apply And.intro
  all_goals (intros; first | rfl | (simp only [kill1, frz1, frz2, List.isEmpty_iff, countR, Bool.cond_eq_ite, Nat.beq_eq]))

theorem from1_op (c : AV) (cs : List AV) : fromRet1 (.op (c :: cs)) = some (.el (c :: cs) 0) := rfl
def tpV (o : Option (List AV)) : Option AV := o.map .tp
theorem tpV_some (cs : List AV) : tpV (some cs) = some (.tp cs) := rfl
theorem fromRetL_nil : fromRetL [] = some [] := rfl
theorem fromRetL_cons (x : AV) (r : List AV) : fromRetL (x :: r) = consO (fromRet1 x) (fromRetL r) := by
  simp only [fromRetL, consO]; cases fromRet1 x <;> cases fromRetL r <;> rfl

theorem frzF_nil : frzF [] = some [] := rfl
theorem frzF_op (c : AV) (cs r : List AV) : frzF (.op (c :: cs) :: r) = consV (.el (c :: cs) 0) (frzF r) := by
  simp only [frzF, consV]; cases frzF r <;> rfl
theorem frzF_os (cs : List AV) (n sz : Nat) (r : List AV) : frzF (.os cs n sz :: r) = consV (.sl cs n) (frzF r) := by
  simp only [frzF, consV]; cases frzF r <;> rfl
theorem frzF_fl {x : AV} (h : x.flat = true) (r : List AV) : frzF (x :: r) = consV x (frzF r) := by
  cases x <;> first | (cases h; done) | (simp only [frzF, AV.flat, cond_true, consV]; cases frzF r <;> rfl)
def fnV (g : Nat) (o : Option (List AV)) : Option AV := o.map (.fn g)
theorem fnV_some (g : Nat) (cs : List AV) : fnV g (some cs) = some (.fn g cs) := rfl

theorem from_eqs  : (E1 fun x => fromRet x = fromRet1 x) ∧
    (E2 fun x => fromRet x = fromRet1 x) ∧
    (E4 fun x => fromRet x = fromRet1 x) ∧
    (E5 fun x => fromRet x = fromRet1 x) ∧
    (∀ (cs : List AV), fromRet (.ag cs) = fromRet1 (.ag cs)) ∧
    (∀ (cs : List AV), fromRet (.aq cs) = fromRet1 (.aq cs)) ∧
    (∀ (l : List AV), fromRet (.tp l) = tpV (fromRetL l)) ∧
    (∀ (cs : List AV) (j' : Nat), fromRet (.el cs j') = fromRet1 (.el cs j')) ∧
    (∀ (g : Nat), fromRet (.fn g []) = fromRet1 (.fn g [])) ∧
    (∀ (g : Nat) (y : AV) (l : List AV), fromRet (.fn g (y :: l)) = fnV g (frzF (y :: l))) := by
  repeat' apply And.intro
  all_goals (intros; first | rfl | (simp only [kill1, frz1, frz2, List.isEmpty_iff, countR, Bool.cond_eq_ite, Nat.beq_eq]))

/-! ### A call's end -/

theorem gathL_nil (L : List (Nat × List AV)) : gathL L [] = some ([], []) := rfl
def gathC (x : Option (AV × List Nat)) (o : Option (List AV × List Nat)) : Option (List AV × List Nat) := match x, o with | some (v, i), some (vs, is) => some (v :: vs, i ++ is) | _, _ => none
theorem gathC_some (v : AV) (i : List Nat) (vs : List AV) (is : List Nat) : gathC (some (v, i)) (some (vs, is)) = some (v :: vs, i ++ is) := rfl
theorem gathL_eq (L : List (Nat × List AV)) (x : AV) (r : List AV) : gathL L (x :: r) = gathC (gath1 L x) (gathL L r) := by
  simp only [gathL, gathC]; cases gath1 L x <;> cases gathL L r <;> rfl
def gathF (e : Nat) (row : Option (List AV)) : Option (AV × List Nat) := match row with | some cs => some (.op cs, [e]) | none => none
theorem gathF_some (e : Nat) (cs : List AV) : gathF e (some cs) = some (.op cs, [e]) := rfl
def gathS (e n sz : Nat) (row : Option (List AV)) : Option (AV × List Nat) := match row with | some cs => some (.os cs n sz, [e]) | none => none
theorem gathS_some (e n sz : Nat) (cs : List AV) : gathS e n sz (some cs) = some (.os cs n sz, [e]) := rfl
theorem gath1_rf (L : List (Nat × List AV)) (e : Nat) : gath1 L (.rf e 0) = if e < 1000000000000 then gathF e (look L e) else none := by
  rw [← isRef_if]; rfl
theorem gath1_rs (L : List (Nat × List AV)) (e n sz : Nat) : gath1 L (.rs e 0 n sz) = if e < 1000000000000 then gathS e n sz (look L e) else none := by
  rw [← isRef_if]; rfl

theorem gath1_eqs (L : List (Nat × List AV)) : (E1 fun x => gath1 L x = some (x, [])) ∧
    (E3 fun x => gath1 L x = none) ∧
    (E5 fun x => gath1 L x = none) ∧
    (E6 fun x => gath1 L x = none) ∧
    (gath1 L .un = none) ∧
    (gath1 L .gone = some (.gone, [])) ∧
    (∀ (g : Nat), gath1 L (.gl g) = none) := by
  repeat' apply And.intro
  all_goals (intros; first | rfl | (simp only [kill1, frz1, frz2, List.isEmpty_iff, countR, Bool.cond_eq_ite, Nat.beq_eq]))

/-- A result that is a row. -/
def ownR (np : Nat) (row : Option (List AV)) (d off n sz c : Nat) : Option (AV × List Nat × List Nat) :=
  match row with
  | some cs => bif isRef d || rootB np d then none else
        bif Nat.beq off 0 && (Nat.ble (n * sz) cs.length && Nat.beq c 1) then some (.os (bif Nat.beq cs.length (n * sz) then cs else cs.take (n * sz)) n sz, [d], []) else
        bif Nat.ble (off + n * sz) cs.length then some (.sl ((cs.drop off).take (n * sz)) n, [], [d]) else none
  | none => none
theorem toRet_rs (np : Nat) (L : List (Nat × List AV)) (all : List AV) (d off n sz : Nat) : toRet np L all (.rs d off n sz) = ownR np (look L d) d off n sz (countR d all) := rfl
theorem ownR_of {np d n sz : Nat} {cs : List AV} (h1 : np ≤ d) (h3 : d < 1000000) (h2 : cs.length = n * sz) : ownR np (some cs) d 0 n sz 1 = some (.os cs n sz, [d], []) := by
  have e1 : rootB np d = false := by rw [rootB_eq]; simp; omega
  have e2 : isRef d = false := by rw [isRef_eq]; simp; omega
  have e5 : Nat.ble (n * sz) (n * sz) = true := by simp
  simp [ownR, e1, e2, h2, e5]
theorem ownR_ch {np d n sz : Nat} {cs : List AV} (h1 : np ≤ 1000000) (h3 : 1000000000 ≤ d) (h4 : d < 1000000000000) (h2 : cs.length = n * sz) : ownR np (some cs) d 0 n sz 1 = some (.os cs n sz, [d], []) := by
  have e1 : rootB np d = false := by rw [rootB_eq]; simp; omega
  have e2 : isRef d = false := by rw [isRef_eq]; simp; omega
  have e5 : Nat.ble (n * sz) (n * sz) = true := by simp
  simp [ownR, e1, e2, h2, e5]
theorem ownR_cut {np d n sz : Nat} {cs : List AV} (h1 : np ≤ d) (h3 : d < 1000000) (h2 : n * sz < cs.length) : ownR np (some cs) d 0 n sz 1 = some (.os (cs.take (n * sz)) n sz, [d], []) := by
  have e1 : rootB np d = false := by rw [rootB_eq]; simp; omega
  have e2 : isRef d = false := by rw [isRef_eq]; simp; omega
  have e3 : Nat.beq cs.length (n * sz) = false := by rw [← Bool.not_eq_true, Nat.beq_eq]; omega
  have e4 : Nat.ble (n * sz) cs.length = true := by rw [Nat.ble_eq]; omega
  simp [ownR, e1, e2, e3, e4]
def retQ (d : Nat) (o : Option (List AV × List Nat)) : Option (AV × List Nat × List Nat) := match o with | some (c, ch) => some (.oq c, d :: ch, []) | none => none
theorem retQ_some (d : Nat) (c : List AV) (ch : List Nat) : retQ d (some (c, ch)) = some (.oq c, d :: ch, []) := rfl
def retA (o : Option (List AV × List Nat)) : Option (AV × List Nat × List Nat) := match o with | some (c, ch) => some (.aq c, ch, []) | none => none
theorem retA_some (c : List AV) (ch : List Nat) : retA (some (c, ch)) = some (.aq c, ch, []) := rfl
def retN (f : Nat) (o : Option (List AV × List Nat)) : Option (AV × List Nat × List Nat) := match o with | some (c, ch) => some (.fn f c, ch, []) | none => none
theorem retN_some (f : Nat) (c : List AV) (ch : List Nat) : retN f (some (c, ch)) = some (.fn f c, ch, []) := rfl
def retF (np d : Nat) (L : List (Nat × List AV)) (_ : Tg L) (row : Option (List AV)) : Option (AV × List Nat × List Nat) :=
  match row with
  | some cs => if rootB np d = true then none else if d < 1000000000000 then some (.op cs, [d], []) else retQ d (gathL L cs)
  | none => none
theorem retF_some (np d : Nat) (L : List (Nat × List AV)) (cs : List AV) : retF np d L () (some cs) = if rootB np d = true then none else if d < 1000000000000 then some (.op cs, [d], []) else retQ d (gathL L cs) := rfl
theorem toRet_rf (np : Nat) (L : List (Nat × List AV)) (all : List AV) (d : Nat) : toRet np L all (.rf d 0) = retF np d L () (look L d) := by
  simp only [toRet, retF]
  cases look L d with
  | none => rfl
  | some cs =>
    cases hr : rootB np d
    · simp [← isRef_if, retQ]; rfl
    · simp

theorem toRet_eqs (np : Nat) (L : List (Nat × List AV)) (all : List AV) : (E1 fun x => toRet np L all x = some (x, [], [])) ∧
    (E2 fun x => toRet np L all x = none) ∧
    (E5 fun x => toRet np L all x = none) ∧
    (∀ (cs : List AV), toRet np L all (.ag cs) = some ((.ag cs), [], [])) ∧
    (∀ (cs : List AV), toRet np L all (.aq cs) = retA (gathL L cs)) ∧
    (∀ (l : List AV), toRet np L all (.tp l) = none) ∧
    (∀ (e o n sz : Nat), toRet np L all (.rs e o n sz) = ownR np (look L e) e o n sz (countR e all)) ∧
    (∀ (cs : List AV) (j' : Nat), toRet np L all (.el cs j') = some ((.el cs j'), [], [])) ∧
    (∀ (g : Nat), toRet np L all (.fn g []) = some ((.fn g []), [], [])) ∧
    (∀ (g : Nat) (y : AV) (l : List AV), toRet np L all (.fn g (y :: l)) = retN g (gathL L (y :: l))) := by
  repeat' apply And.intro
  all_goals (intros; first | rfl | (simp only [kill1, frz1, frz2, List.isEmpty_iff, countR, Bool.cond_eq_ite, Nat.beq_eq]))

theorem toRets_nil (np : Nat) (L : List (Nat × List AV)) (all : List AV) : toRets np L all [] = some ([], [], []) := rfl
def retC (x : Option (AV × List Nat × List Nat)) (o : Option (List AV × List Nat × List Nat)) : Option (List AV × List Nat × List Nat) := match x, o with | some (v, h, s), some (vs, hs, ss) => some (v :: vs, h ++ hs, s ++ ss) | _, _ => none
theorem retC_some (v : AV) (h s : List Nat) (vs : List AV) (hs ss : List Nat) : retC (some (v, h, s)) (some (vs, hs, ss)) = some (v :: vs, h ++ hs, s ++ ss) := rfl
theorem toRets_cons (np : Nat) (L : List (Nat × List AV)) (all : List AV) (x : AV) (r : List AV) : toRets np L all (x :: r) = retC (toRet np L all x) (toRets np L all r) := by
  simp only [toRets, retC]; cases toRet np L all x <;> cases toRets np L all r <;> rfl
def lentF (row : Option (List AV)) : Option (List (List AV) × List Nat) := match row with | some cs => some ([cs], []) | none => none
theorem lentF_some (cs : List AV) : lentF (some cs) = some ([cs], []) := rfl
def lentG (o : Option (List AV × List Nat)) : Option (List (List AV) × List Nat) := match o with | some (c, ch) => some ([c], ch) | none => none
theorem lentG_some (c : List AV) (ch : List Nat) : lentG (some (c, ch)) = some ([c], ch) := rfl
def lentQ (L : List (Nat × List AV)) (_ : Tg L) (row : Option (List AV)) : Option (List (List AV) × List Nat) := match row with | some cs => lentG (gathL L cs) | none => none
theorem lentQ_some (L : List (Nat × List AV)) (cs : List AV) : lentQ L () (some cs) = lentG (gathL L cs) := rfl
def lentC (x : Option (List (List AV) × List Nat)) (o : Option (List (List AV) × List Nat)) : Option (List (List AV) × List Nat) := match x, o with | some (a, h), some (as, hs) => some (a ++ as, h ++ hs) | _, _ => none
theorem lentC_some (a : List (List AV)) (h : List Nat) (as : List (List AV)) (hs : List Nat) : lentC (some (a, h)) (some (as, hs)) = some (a ++ as, h ++ hs) := rfl
theorem lentR_op (L : List (Nat × List AV)) (i : Nat) (cs : List AV) : lentR L i (.op cs) = if i < 1000000000000 then lentF (look L i) else none := by
  simp only [lentR, lentF]
  cases look L i with
  | none => simp
  | some c => simp only [isRef_if]
theorem lentR_oq (L : List (Nat × List AV)) (i : Nat) (cs : List AV) : lentR L i (.oq cs) = lentQ L () (look L (1000000000000 + i)) := by
  simp only [lentR, lentQ, lentG]
  cases look L (1000000000000 + i) with
  | none => rfl
  | some c => cases gathL L c <;> rfl
theorem lentA_op (L : List (Nat × List AV)) (i : Nat) (cs : List AV) : lentA L i (.op cs) = if i < 1000000000000 then lentF (look L i) else none := lentR_op L i cs
theorem lentA_oq (L : List (Nat × List AV)) (i : Nat) (cs : List AV) : lentA L i (.oq cs) = lentQ L () (look L (1000000000000 + i)) := lentR_oq L i cs
theorem lentParts_nil (L : List (Nat × List AV)) (j k : Nat) : lentParts L j k [] = some ([], []) := rfl
theorem lentParts_cons (L : List (Nat × List AV)) (j k : Nat) (x : AV) (r : List AV) : lentParts L j k (x :: r) = lentC (lentR L (partId j k) x) (lentParts L j (k + 1) r) := by
  simp only [lentParts, lentC]; cases lentR L (partId j k) x <;> cases lentParts L j (k + 1) r <;> rfl
theorem lentOf_nil (L : List (Nat × List AV)) (j : Nat) : lentOf L j [] = some ([], []) := rfl
theorem lentOf_cons (L : List (Nat × List AV)) (j : Nat) (x : AV) (r : List AV) : lentOf L j (x :: r) = lentC (lentA L j x) (lentOf L (j + 1) r) := by
  simp only [lentOf, lentC]; cases lentA L j x <;> cases lentOf L (j + 1) r <;> rfl

theorem lentR_eqs (L : List (Nat × List AV)) (j : Nat) : (E1 fun x => lentR L j x = some ([], [])) ∧
    (E2 fun x => lentR L j x = some ([], [])) ∧
    (E3 fun x => lentR L j x = some ([], [])) ∧
    (E4 fun x => lentR L j x = some ([], [])) ∧
    (E6 fun x => lentR L j x = some ([], [])) ∧
    (∀ (cs : List AV) (n sz : Nat), lentR L j (.os cs n sz) = some ([], [])) := by
  repeat' apply And.intro
  all_goals (intros; first | rfl | (simp only [kill1, frz1, frz2, List.isEmpty_iff, countR, Bool.cond_eq_ite, Nat.beq_eq]))

theorem lentA_eqs (L : List (Nat × List AV)) (j : Nat) : (E1 fun x => lentA L j x = some ([], [])) ∧
    (E2 fun x => lentA L j x = some ([], [])) ∧
    (E3 fun x => lentA L j x = some ([], [])) ∧
    (E4 fun x => lentA L j x = some ([], [])) ∧
    (∀ (cs : List AV) (n sz : Nat), lentA L j (.os cs n sz) = some ([], [])) ∧
    (∀ (cs : List AV), lentA L j (.aq cs) = lentParts L j 0 cs) ∧
    (∀ (g : Nat) (l : List AV), lentA L j (.fn g l) = lentParts L j 0 l) := by
  repeat' apply And.intro
  all_goals (intros; first | rfl | (simp only [kill1, frz1, frz2, List.isEmpty_iff, countR, Bool.cond_eq_ite, Nat.beq_eq]))

theorem countR_nil (d : Nat) : countR d [] = 0 := rfl

theorem countR_eqs (d : Nat) (r : List AV) : (E1 fun x => countR d (x :: r) = countR d r) ∧
    (E2 fun x => countR d (x :: r) = countR d r) ∧
    (E3 fun x => countR d (x :: r) = countR d r) ∧
    (E5 fun x => countR d (x :: r) = countR d r) ∧
    (E6 fun x => countR d (x :: r) = countR d r) ∧
    (∀ (e o : Nat), countR d ((.rf e o) :: r) = (if e = d then 1 else 0) + countR d r) ∧
    (∀ (e o n sz : Nat), countR d ((.rs e o n sz) :: r) = (if e = d then 1 else 0) + countR d r) := by
  repeat' apply And.intro
  all_goals (intros; first | rfl | (simp only [kill1, frz1, frz2, List.isEmpty_iff, countR, Bool.cond_eq_ite, Nat.beq_eq]))

theorem hasSl1_eqs  : (E2 fun x => hasSl1 x = false) ∧
    (E3 fun x => hasSl1 x = true) ∧
    (E4 fun x => hasSl1 x = false) ∧
    (E5 fun x => hasSl1 x = false) ∧
    (E6 fun x => hasSl1 x = false) ∧
    (∀ (k : IntKind) (n : Int), hasSl1 (.i k n) = false) ∧
    (∀ (t : Bool), hasSl1 (.b t) = false) ∧
    (∀ (t : ByteArray), hasSl1 (.s t) = false) ∧
    (hasSl1 .nl = false) ∧
    (hasSl1 .np = false) ∧
    (hasSl1 .nf = false) ∧
    (∀ (g : Nat), hasSl1 (.er g) = false) ∧
    (∀ (t : Nat) (cs : List AV), hasSl1 (.ie t cs) = true) ∧
    (∀ (cs : List AV) (n : Nat), hasSl1 (.sl cs n) = true) ∧
    (hasSl1 .z = false) := by
  repeat' apply And.intro
  all_goals (intros; first | rfl | (simp only [kill1, frz1, frz2, List.isEmpty_iff, countR, Bool.cond_eq_ite, Nat.beq_eq]))

theorem hasSlC_eqs  : (E1 fun x => hasSlC x = hasSl1 x) ∧
    (E2 fun x => hasSlC x = hasSl1 x) ∧
    (E3 fun x => hasSlC x = hasSl1 x) ∧
    (E4 fun x => hasSlC x = hasSl1 x) ∧
    (E6 fun x => hasSlC x = hasSl1 x) ∧
    (∀ (cs : List AV) (n sz : Nat), hasSlC (.os cs n sz) = hasSlL cs) ∧
    (∀ (cs : List AV), hasSlC (.op cs) = hasSlL cs) ∧
    (∀ (cs : List AV), hasSlC (.oq cs) = hasSl1 (.oq cs)) := by
  repeat' apply And.intro
  all_goals (intros; first | rfl | (simp only [kill1, frz1, frz2, List.isEmpty_iff, countR, Bool.cond_eq_ite, Nat.beq_eq]))

theorem hasSl2_eqs  : (E1 fun x => hasSl2 x = hasSl1 x) ∧
    (E2 fun x => hasSl2 x = hasSl1 x) ∧
    (E3 fun x => hasSl2 x = hasSl1 x) ∧
    (E4 fun x => hasSl2 x = hasSl1 x) ∧
    (∀ (cs : List AV) (n sz : Nat), hasSl2 (.os cs n sz) = hasSlL cs) ∧
    (∀ (cs : List AV), hasSl2 (.op cs) = hasSlL cs) ∧
    (∀ (cs : List AV), hasSl2 (.oq cs) = hasSlCL cs) ∧
    (∀ (cs : List AV), hasSl2 (.aq cs) = hasSlCL cs) ∧
    (∀ (g : Nat) (l : List AV), hasSl2 (.fn g l) = hasSlCL l) := by
  repeat' apply And.intro
  all_goals (intros; first | rfl | (simp only [kill1, frz1, frz2, List.isEmpty_iff, countR, Bool.cond_eq_ite, Nat.beq_eq]))

theorem hasSl_eqs  : (E1 fun x => hasSl x = hasSl2 x) ∧
    (E2 fun x => hasSl x = hasSl2 x) ∧
    (E4 fun x => hasSl x = hasSl2 x) ∧
    (E5 fun x => hasSl x = hasSl2 x) ∧
    (E6 fun x => hasSl x = hasSl2 x) ∧
    (∀ (cs : List AV), hasSl (.ag cs) = hasSl2 (.ag cs)) ∧
    (∀ (l : List AV), hasSl (.tp l) = hasSl2L l) ∧
    (∀ (cs : List AV) (j' : Nat), hasSl (.el cs j') = hasSl2 (.el cs j')) := by
  repeat' apply And.intro
  all_goals (intros; first | rfl | (simp only [kill1, frz1, frz2, List.isEmpty_iff, countR, Bool.cond_eq_ite, Nat.beq_eq]))

theorem hasSlCL_nil : hasSlCL [] = false := rfl
theorem hasSlCL_cons (x : AV) (r : List AV) : hasSlCL (x :: r) = (hasSlC x || hasSlCL r) := rfl

theorem sees0_eqs (ds : List Nat) (r : List AV) : (E1 fun x => sees0 ds (x :: r) = sees0 ds r) ∧
    (E2 fun x => sees0 ds (x :: r) = sees0 ds r) ∧
    (E3 fun x => sees0 ds (x :: r) = sees0 ds r) ∧
    (E5 fun x => sees0 ds (x :: r) = sees0 ds r) ∧
    (E6 fun x => sees0 ds (x :: r) = sees0 ds r) ∧
    (∀ (e o : Nat), sees0 ds ((.rf e o) :: r) = sees0 ds r) ∧
    (∀ (e o n sz : Nat), sees0 ds ((.rs e o n sz) :: r) = (memb ds e || sees0 ds r)) := by
  repeat' apply And.intro
  all_goals (intros; first | rfl | (simp only [kill1, frz1, frz2, List.isEmpty_iff, countR, Bool.cond_eq_ite, Nat.beq_eq]))

theorem seesAny_eqs (mv ds : List Nat) (r : List AV) : (E1 fun x => seesAny mv ds (x :: r) = seesAny mv ds r) ∧
    (E2 fun x => seesAny mv ds (x :: r) = seesAny mv ds r) ∧
    (E3 fun x => seesAny mv ds (x :: r) = seesAny mv ds r) ∧
    (E5 fun x => seesAny mv ds (x :: r) = seesAny mv ds r) ∧
    (∀ (cs : List AV), seesAny mv ds ((.aq cs) :: r) = (sees0 ds cs || seesAny mv ds r)) ∧
    (∀ (e o : Nat), seesAny mv ds ((.rf e o) :: r) = seesAny mv ds r) ∧
    (∀ (e o n sz : Nat), seesAny mv ds ((.rs e o n sz) :: r) = ((!memb mv e && memb ds e) || seesAny mv ds r)) ∧
    (∀ (g : Nat) (l : List AV), seesAny mv ds ((.fn g l) :: r) = (sees0 ds l || seesAny mv ds r)) := by
  repeat' apply And.intro
  all_goals (intros; first | rfl | (simp only [kill1, frz1, frz2, List.isEmpty_iff, countR, Bool.cond_eq_ite, Nat.beq_eq]))

theorem anyOs_eqs (r : List AV) : (E1 fun x => anyOs (x :: r) = anyOs r) ∧
    (E2 fun x => anyOs (x :: r) = anyOs r) ∧
    (E3 fun x => anyOs (x :: r) = anyOs r) ∧
    (E4 fun x => anyOs (x :: r) = anyOs r) ∧
    (E6 fun x => anyOs (x :: r) = anyOs r) ∧
    (∀ (cs : List AV) (n sz : Nat), anyOs ((.os cs n sz) :: r) = true) ∧
    (∀ (cs : List AV), anyOs ((.op cs) :: r) = anyOs r) ∧
    (∀ (cs : List AV), anyOs ((.oq cs) :: r) = anyOs r) := by
  repeat' apply And.intro
  all_goals (intros; first | rfl | (simp only [kill1, frz1, frz2, List.isEmpty_iff, countR, Bool.cond_eq_ite, Nat.beq_eq]))

theorem namesNot_eqs (ds : List Nat) (r : List AV) : (E1 fun x => namesNot ds (x :: r) = namesNot ds r) ∧
    (E2 fun x => namesNot ds (x :: r) = namesNot ds r) ∧
    (E3 fun x => namesNot ds (x :: r) = namesNot ds r) ∧
    (E5 fun x => namesNot ds (x :: r) = namesNot ds r) ∧
    (E6 fun x => namesNot ds (x :: r) = namesNot ds r) ∧
    (∀ (e o : Nat), namesNot ds ((.rf e o) :: r) = (!memb ds e && namesNot ds r)) ∧
    (∀ (e o n sz : Nat), namesNot ds ((.rs e o n sz) :: r) = (!memb ds e && namesNot ds r)) := by
  repeat' apply And.intro
  all_goals (intros; first | rfl | (simp only [kill1, frz1, frz2, List.isEmpty_iff, countR, Bool.cond_eq_ite, Nat.beq_eq]))

theorem sees0_nil (ds : List Nat) : sees0 ds [] = false := rfl
theorem seesAny_nil (mv ds : List Nat) : seesAny mv ds [] = false := rfl
theorem anyOs_nil : anyOs [] = false := rfl
theorem namesNot_nil (ds : List Nat) : namesNot ds [] = true := rfl
theorem sees0_no : ∀ (as : List AV), sees0 [] as = false
  | [] => rfl
  | x :: r => by cases x <;> simp [sees0, memb, sees0_no r]
theorem seesAny_no (mv : List Nat) : ∀ (as : List AV), seesAny mv [] as = false
  | [] => rfl
  | x :: r => by cases x <;> simp [seesAny, memb, sees0_no, seesAny_no mv r]
/-! ### What is lent -/

def lendG (d : Nat) (o : Option (List AV × List Nat)) : Option (AV × List Nat × List Nat) := match o with | some (c, ch) => some (.oq c, [d], ch) | none => none
theorem lendG_some (d : Nat) (c : List AV) (ch : List Nat) : lendG d (some (c, ch)) = some (.oq c, [d], ch) := rfl
def lendF (L : List (Nat × List AV)) (d : Nat) (_ : Tg L) (row : Option (List AV)) : Option (AV × List Nat × List Nat) :=
  match row with
  | some cs => if d < 1000000000000 then some (.op cs, [d], []) else lendG d (gathL L cs)
  | none => none
theorem lendF_some (L : List (Nat × List AV)) (d : Nat) (cs : List AV) : lendF L d () (some cs) = if d < 1000000000000 then some (.op cs, [d], []) else lendG d (gathL L cs) := rfl
theorem lendP_rf (L : List (Nat × List AV)) (d : Nat) : lendP L (.rf d 0) = lendF L d () (look L d) := by
  simp only [lendP, lendF]
  cases look L d with
  | none => rfl
  | some cs => simp only [← isRef_if, lendG]; cases isRef d <;> rfl
theorem lend1_rf (mv : List Nat) (L : List (Nat × List AV)) (d : Nat) : lend1 mv L (.rf d 0) = lendF L d () (look L d) := lendP_rf L d
def lendV (o : Option AV) : Option (AV × List Nat × List Nat) := match o with | some v => some (v, [], []) | none => none
theorem lendV_some (v : AV) : lendV (some v) = some (v, [], []) := rfl
theorem lendP_rs (L : List (Nat × List AV)) (d o n sz : Nat) : lendP L (.rs d o n sz) = lendV (viewR L d o n sz) := by
  simp only [lendP, lendV]; cases viewR L d o n sz <;> rfl
/-- Handed over. -/
def lendS (d n sz : Nat) (row : Option (List AV)) : Option (AV × List Nat × List Nat) := match row with | some cs => if d < 1000000000000 then some (.os cs n sz, [], [d]) else none | none => none
theorem lendS_some (d n sz : Nat) (cs : List AV) : lendS d n sz (some cs) = if d < 1000000000000 then some (.os cs n sz, [], [d]) else none := rfl
def lendM (b : Bool) (L : List (Nat × List AV)) (_ : Tg L) (d o n sz : Nat) : Option (AV × List Nat × List Nat) := match b, o with | true, 0 => lendS d n sz (look L d) | true, _ => none | false, o => lendV (viewR L d o n sz)
theorem lendM_f (L : List (Nat × List AV)) (d o n sz : Nat) : lendM false L () d o n sz = lendV (viewR L d o n sz) := rfl
theorem lendM_t (L : List (Nat × List AV)) (d n sz : Nat) : lendM true L () d 0 n sz = lendS d n sz (look L d) := rfl
theorem lend1_rs (mv : List Nat) (L : List (Nat × List AV)) (d o n sz : Nat) : lend1 mv L (.rs d o n sz) = lendM (memb mv d) L () d o n sz := by
  simp only [lend1, lendM, lendV]
  cases memb mv d
  · simp only [cond_false]; cases viewR L d o n sz <;> rfl
  · simp only [cond_true]
    cases o with
    | succ o => cases look L d <;> rfl
    | zero =>
      simp only [lendS]
      cases look L d with
      | none => rfl
      | some cs => simp only [isRef_eq, Bool.cond_eq_ite, decide_eq_true_eq]; split <;> split <;> first | rfl | omega
def lendT (x : Option (AV × List Nat × List Nat)) (o : Option (List AV × List Nat × List Nat)) : Option (List AV × List Nat × List Nat) := match x, o with | some (v, d, c), some (vs, ds, cs) => some (v :: vs, d ++ ds, c ++ cs) | _, _ => none
theorem lendT_some (v : AV) (d c : List Nat) (vs : List AV) (ds cs : List Nat) : lendT (some (v, d, c)) (some (vs, ds, cs)) = some (v :: vs, d ++ ds, c ++ cs) := rfl
theorem lendPL_nil (L : List (Nat × List AV)) : lendPL L [] = some ([], [], []) := rfl
theorem lendPL_cons (L : List (Nat × List AV)) (x : AV) (r : List AV) : lendPL L (x :: r) = lendT (lendP L x) (lendPL L r) := by
  simp only [lendPL, lendT]; cases lendP L x <;> cases lendPL L r <;> rfl
theorem lends_nil (mv : List Nat) (L : List (Nat × List AV)) : lends mv L [] = some ([], [], []) := rfl
theorem lends_eq (mv : List Nat) (L : List (Nat × List AV)) (x : AV) (r : List AV) : lends mv L (x :: r) = lendT (lend1 mv L x) (lends mv L r) := by
  simp only [lends, lendT]; cases lend1 mv L x <;> cases lends mv L r <;> rfl
def lendA (o : Option (List AV × List Nat × List Nat)) : Option (AV × List Nat × List Nat) := match o with | some (vs, ds, ch) => some (bif ds.isEmpty then .ag vs else .aq vs, ds, ch) | none => none
theorem lendA_nil (vs : List AV) (ch : List Nat) : lendA (some (vs, [], ch)) = some (.ag vs, [], ch) := rfl
theorem lendA_cons (vs : List AV) (d : Nat) (ds ch : List Nat) : lendA (some (vs, d :: ds, ch)) = some (.aq vs, d :: ds, ch) := rfl
def lendN (f : Nat) (o : Option (List AV × List Nat × List Nat)) : Option (AV × List Nat × List Nat) := match o with | some (vs, ds, ch) => some (.fn f vs, ds, ch) | none => none
theorem lendN_some (f : Nat) (vs : List AV) (ds ch : List Nat) : lendN f (some (vs, ds, ch)) = some (.fn f vs, ds, ch) := rfl

theorem lendP_eqs (L : List (Nat × List AV)) : (E1 fun x => lendP L x = some (x, [], [])) ∧
    (E2 fun x => lendP L x = none) ∧
    (E3 fun x => lendP L x = none) ∧
    (E5 fun x => lendP L x = none) ∧
    (E6 fun x => lendP L x = none) := by
  repeat' apply And.intro
  all_goals (intros; first | rfl | (simp only [kill1, frz1, frz2, List.isEmpty_iff, countR, Bool.cond_eq_ite, Nat.beq_eq]))

theorem lend1_eqs (mv : List Nat) (L : List (Nat × List AV)) : (E1 fun x => lend1 mv L x = some (x, [], [])) ∧
    (E2 fun x => lend1 mv L x = none) ∧
    (E5 fun x => lend1 mv L x = none) ∧
    (∀ (cs : List AV), lend1 mv L (.ag cs) = some ((.ag cs), [], [])) ∧
    (∀ (cs : List AV), lend1 mv L (.aq cs) = lendA (lendPL L cs)) ∧
    (∀ (l : List AV), lend1 mv L (.tp l) = none) ∧
    (∀ (cs : List AV) (j' : Nat), lend1 mv L (.el cs j') = some ((.el cs j'), [], [])) ∧
    (∀ (g : Nat), lend1 mv L (.fn g []) = some ((.fn g []), [], [])) ∧
    (∀ (g : Nat) (y : AV) (l : List AV), lend1 mv L (.fn g (y :: l)) = lendN g (lendPL L (y :: l))) := by
  repeat' apply And.intro
  all_goals (intros; first | rfl | (simp only [kill1, frz1, frz2, List.isEmpty_iff, countR, Bool.cond_eq_ite, Nat.beq_eq]))
theorem cellsOf_ag1 (a : AV) : cellsOf 1 (.ag [a]) = some [a] := rfl
theorem cellsOf_ag2 (a b : AV) : cellsOf 2 (.ag [a, b]) = some [a, b] := rfl
theorem cellsOf_ag3 (a b c : AV) : cellsOf 3 (.ag [a, b, c]) = some [a, b, c] := rfl
theorem cellsOf_ag4 (a b c d : AV) : cellsOf 4 (.ag [a, b, c, d]) = some [a, b, c, d] := rfl
theorem cellsOf_ag5 (a b c d e : AV) : cellsOf 5 (.ag [a, b, c, d, e]) = some [a, b, c, d, e] := rfl
theorem partV_2 (a b : AV) : partV [a, b] 0 (some 2) = some (.ag [a, b]) := rfl
theorem partV_3 (a b c : AV) : partV [a, b, c] 0 (some 3) = some (.ag [a, b, c]) := rfl
theorem partV_4 (a b c d : AV) : partV [a, b, c, d] 0 (some 4) = some (.ag [a, b, c, d]) := rfl
theorem partV_5 (a b c d e : AV) : partV [a, b, c, d, e] 0 (some 5) = some (.ag [a, b, c, d, e]) := rfl

theorem allPlain_nil : allPlain [] = true := rfl
theorem allPlain_cons (x : AV) (r : List AV) : allPlain (x :: r) = (plain x && allPlain r) := rfl

/-! ### Rows, put and taken -/

theorem putRows_nil (l : List (Nat × List AV)) : putRows l [] = l := rfl
theorem putRows_cons (l : List (Nat × List AV)) (d : Nat) (cs : List AV) (r : List (Nat × List AV)) : putRows l ((d, cs) :: r) = putRows (put l d cs) r := rfl
theorem kills_nil (S : St) : St.kills S [] = S := rfl
theorem kills_cons (s : List (Nat × AV)) (l : List (Nat × List AV)) (d : Nat) (r : List Nat) : St.kills ⟨s, l⟩ (d :: r) = St.kills ⟨mapS (kill1 d) s, mapQ (kill1 d) (del l d)⟩ r := rfl
def putRS (S : St) (b a : List (Nat × List AV)) : St := { S with l := putRows (putRows S.l b) a }
theorem putRS_mk (s : List (Nat × AV)) (l b a : List (Nat × List AV)) : putRS ⟨s, l⟩ b a = ⟨s, putRows (putRows l b) a⟩ := rfl
theorem takeRows_nil (S : St) : St.takeRows S [] = S := rfl
theorem takeRows_cons (S : St) (d : Nat) (cs : List AV) (r : List (Nat × List AV)) : St.takeRows S ((d, cs) :: r) = putRS (S.kills (keys ((d, cs) :: r))) [] ((d, cs) :: r) := rfl
theorem rootAt_mk (s : List (Nat × AV)) (l : List (Nat × List AV)) (t d : Nat) (cs : List AV) (v : AV) : St.rootAt ⟨s, l⟩ t d cs v = ⟨put (mapS (kill1 d) s) t v, put (mapQ (kill1 d) (del l d)) d cs⟩ := rfl

/-- A row that may hold names. -/
def nilsX (D o sz : Nat) (r : List (Nat × Nat)) (cs : List AV) (x : Option AV) : Option (List AV × List (Nat × List AV)) :=
  match x with
  | some .z => (match nilsOf D r (cs.set o (.rs (child D o) 0 0 sz)) with | some (cs', rows) => some (cs', (child D o, []) :: rows) | none => none)
  | _ => none
def nilsC (D o : Nat) (x : Option (List AV × List (Nat × List AV))) : Option (List AV × List (Nat × List AV)) := match x with | some (cs', rows) => some (cs', (child D o, []) :: rows) | none => none
theorem nilsC_some (D o : Nat) (cs : List AV) (rows : List (Nat × List AV)) : nilsC D o (some (cs, rows)) = some (cs, (child D o, []) :: rows) := rfl
theorem nilsOf_nil (D : Nat) (cs : List AV) : nilsOf D [] cs = some (cs, []) := rfl
theorem nilsOf_cons (D o sz : Nat) (r : List (Nat × Nat)) (cs : List AV) : nilsOf D ((o, sz) :: r) cs = nilsX D o sz r cs cs[o]? := by
  simp only [nilsOf, nilsX]
  cases cs[o]? with
  | none => rfl
  | some x => cases x <;> rfl
theorem nilsX_z (D o sz : Nat) (r : List (Nat × Nat)) (cs : List AV) : nilsX D o sz r cs (some .z) = nilsC D o (nilsOf D r (cs.set o (.rs (child D o) 0 0 sz))) := by
  simp only [nilsX, nilsC]
def rootR (S : St) (d : Nat) (cs : List AV) (_ : Tg2 S cs) (o : Option (List AV × List (Nat × List AV))) : Option St :=
  match o with
  | some (cs', rows) => if ((nodupB (keys rows) && allCh (keys rows)) && (namesNot [1000000000000 + d] cs && namesNot (keys rows) cs)) = true then some ((S.takeRows rows).rootAt d (1000000000000 + d) cs' (.rf (1000000000000 + d) 0)) else none
  | none => none
theorem rootQ_eq (S : St) (d : Nat) (cs : List AV) (nils : List (Nat × Nat)) : rootQ S d cs nils = rootR S d cs () (nilsOf d nils cs) := by
  simp only [rootQ, rootR, names0, Bool.cond_eq_ite]; rfl
theorem rootR_some (S : St) (d : Nat) (cs cs' : List AV) (rows : List (Nat × List AV)) : rootR S d cs () (some (cs', rows)) = if ((nodupB (keys rows) && allCh (keys rows)) && (namesNot [1000000000000 + d] cs && namesNot (keys rows) cs)) = true then some ((S.takeRows rows).rootAt d (1000000000000 + d) cs' (.rf (1000000000000 + d) 0)) else none := rfl
def boxQS (S : St) (d : Nat) (nils : List (Nat × Nat)) (_ : Tg S) (cs : Option (List AV)) : Option St := match cs with | some cs => rootQ S d cs nils | none => none
theorem sv_boxQ (call : CallF) (S : St) (d sz : Nat) (v : Operand) (nils : List (Nat × Nat)) : step call ⟨some d, .boxQ sz v nils, none⟩ S = boxQS S d nils () (cellsQ sz (evalO S.s v)) := by
  rw [st_boxQ]; simp only [stepK, boxQS]; cases cellsQ sz (evalO S.s v) <;> rfl
theorem boxQS_some (S : St) (d : Nat) (nils : List (Nat × Nat)) (cs : List AV) : boxQS S d nils () (some cs) = rootQ S d cs nils := rfl
theorem sv_allocQ (call : CallF) (S : St) (d : Nat) (zero : List AV) (nils : List (Nat × Nat)) : step call ⟨some d, .allocQ zero nils, none⟩ S = rootQ S d zero nils := rfl

/-! ### Append -/

def appS (S : St) (_ : Tg S) (t sz bytes : Nat) (x y : AV) : Option St :=
  match x with
  | .rs d 0 n sz' =>
    (match look S.l d, srcV S.l sz d y with
     | some cs, some (vs, m) =>
       bif (Nat.beq sz sz' && !isRef d) && (Nat.ble (n * sz) cs.length && decide ((n + m) * bytes ≤ 140737488355328)) then
         some (S.rootAt t d ((bif Nat.beq cs.length (n * sz) then cs else cs.take (n * sz)) ++ vs) (.rs d 0 (n + m) sz)) else none
     | _, _ => none)
  | .z =>
    (match srcV S.l sz t y with
     | some (vs, m) => bif decide (m * bytes ≤ 140737488355328) then some (S.root t vs (.rs t 0 m sz)) else none
     | none => none)
  | _ => none
theorem sv_app (call : CallF) (S : St) (t sz bytes : Nat) (x y : Operand) : step call ⟨some t, .app sz bytes x y, none⟩ S = appS S () t sz bytes (evalO S.s x) (evalO S.s y) := by
  rw [st_app]; simp only [stepK, appS]
  cases hx : evalO S.s x <;> first | rfl | skip
  rename_i d o n sz'
  cases o <;> rfl
def appR (s : List (Nat × AV)) (l : List (Nat × List AV)) (_ : Tg2 s l) (t d n sz bytes : Nat) (row : Option (List AV)) (src : Option (List AV × Nat)) : Option St :=
  match row, src with
  | some cs, some (vs, m) => bif !isRef d && (Nat.ble (n * sz) cs.length && decide ((n + m) * bytes ≤ 140737488355328)) then
         some (St.rootAt ⟨s, l⟩ t d ((bif Nat.beq cs.length (n * sz) then cs else cs.take (n * sz)) ++ vs) (.rs d 0 (n + m) sz)) else none
  | _, _ => none
theorem appS_rs (s : List (Nat × AV)) (l : List (Nat × List AV)) (t sz bytes d n : Nat) (y : AV) : appS ⟨s, l⟩ () t sz bytes (.rs d 0 n sz) y = appR s l () t d n sz bytes (look l d) (srcV l sz d y) := by
  simp only [appS, appR]
  cases look l d <;> cases srcV l sz d y <;> simp
theorem appR_of {s : List (Nat × AV)} {l : List (Nat × List AV)} {t d n sz bytes m : Nat} {cs vs : List AV} (h0 : d < 1000000000000) (h1 : cs.length = n * sz) (h2 : (n + m) * bytes ≤ 140737488355328) : appR s l () t d n sz bytes (some cs) (some (vs, m)) = some ⟨put (mapS (kill1 d) s) t (.rs d 0 (n + m) sz), put (mapQ (kill1 d) (del l d)) d (cs ++ vs)⟩ := by
  have e : isRef d = false := by rw [isRef_eq]; simp; omega
  have e5 : Nat.ble (n * sz) (n * sz) = true := by simp
  simp [appR, h1, h2, e, e5, St.rootAt]
theorem appR_cut {s : List (Nat × AV)} {l : List (Nat × List AV)} {t d n sz bytes m : Nat} {cs vs : List AV} (h0 : d < 1000000000000) (h1 : n * sz < cs.length) (h2 : (n + m) * bytes ≤ 140737488355328) : appR s l () t d n sz bytes (some cs) (some (vs, m)) = some ⟨put (mapS (kill1 d) s) t (.rs d 0 (n + m) sz), put (mapQ (kill1 d) (del l d)) d (cs.take (n * sz) ++ vs)⟩ := by
  have e : isRef d = false := by rw [isRef_eq]; simp; omega
  have e3 : Nat.beq cs.length (n * sz) = false := by rw [← Bool.not_eq_true, Nat.beq_eq]; omega
  have e4 : Nat.ble (n * sz) cs.length = true := by rw [Nat.ble_eq]; omega
  simp [appR, e3, e4, h2, e, St.rootAt]
theorem srcV_sl {l : List (Nat × List AV)} {sz d m : Nat} {cs : List AV} (h : cs.length = m * sz) : srcV l sz d (.sl cs m) = some (cs, m) := by simp [srcV, h]
theorem srcV_z (l : List (Nat × List AV)) (sz d : Nat) : srcV l sz d .z = some ([], 0) := rfl
theorem appS_z {s : List (Nat × AV)} {l : List (Nat × List AV)} {t sz bytes m : Nat} {vs : List AV} {y : AV} (h : srcV l sz t y = some (vs, m)) (h2 : m * bytes ≤ 140737488355328) : appS ⟨s, l⟩ () t sz bytes .z y = some (St.root ⟨s, l⟩ t vs (.rs t 0 m sz)) := by
  simp [appS, h, h2]
def srcR (sz d e off m sz' : Nat) (row : Option (List AV)) : Option (List AV × Nat) :=
  match row with
  | some cs => bif !Nat.beq e d && (Nat.beq sz sz' && Nat.ble (off + m * sz) cs.length) then some ((cs.drop off).take (m * sz), m) else none
  | none => none
theorem srcV_rs (l : List (Nat × List AV)) (sz d e off m sz' : Nat) : srcV l sz d (.rs e off m sz') = if e < 1000000000000 then srcR sz d e off m sz' (look l e) else none := by
  simp only [srcV, srcR, isRef_if]; cases look l e <;> rfl
theorem srcR_some {sz d e off m : Nat} {cs : List AV} (hne : e ≠ d) (h : off + m * sz ≤ cs.length) : srcR sz d e off m sz (some cs) = some ((cs.drop off).take (m * sz), m) := by
  have h1 : Nat.beq e d = false := by rw [← Bool.not_eq_true, Nat.beq_eq]; exact hne
  have h2 : Nat.ble (off + m * sz) cs.length = true := by rw [Nat.ble_eq]; exact h
  simp [srcR, h1, h2, Nat.beq_refl]
def appNS (S : St) (t : Nat) (zero : List AV) (bytes : Nat) (_ : Tg S) (x n : AV) : Option St :=
  match x, n with
  | .z, .i .i64 n => bif decide (0 < n) && decide (n.toNat * bytes ≤ 140737488355328) then some (S.root t (zrep zero n.toNat) (.rs t 0 n.toNat zero.length)) else none
  | _, _ => none
theorem sv_appN (call : CallF) (S : St) (t : Nat) (zero : List AV) (bytes : Nat) (x n : Operand) : step call ⟨some t, .appN zero bytes x n, none⟩ S = appNS S t zero bytes () (evalO S.s x) (evalO S.s n) := by
  rw [st_appN]; simp only [stepK, appNS]
  cases evalO S.s x <;> cases evalO S.s n <;> try rfl
  rename_i k m; cases k <;> rfl
theorem appNS_of {S : St} {t : Nat} {zero : List AV} {bytes : Nat} {n : Int} (h0 : 0 < n) (h1 : n * bytes ≤ 140737488355328) : appNS S t zero bytes () .z (.i .i64 n) = some (S.root t (zrep zero n.toNat) (.rs t 0 n.toNat zero.length)) := by
  have : n.toNat * bytes ≤ 140737488355328 := by
    have e : (n.toNat : Int) = n := Int.toNat_of_nonneg (by omega)
    have : ((n.toNat * bytes : Nat) : Int) ≤ 140737488355328 := by rw [Int.natCast_mul, e]; exact h1
    omega
  simp [appNS, h0, this]
def nilS (S : St) (_ : Tg S) (d sz : Nat) (x : AV) : Option St := match x with | .z => some (S.root d [] (.rs d 0 0 sz)) | _ => none
theorem sv_nilR (call : CallF) (S : St) (d sz : Nat) (x : Operand) : step call ⟨some d, .nilR sz x, none⟩ S = nilS S () d sz (evalO S.s x) := by
  rw [st_nilR]; simp only [stepK, nilS]
  cases evalO S.s x <;> rfl
theorem nilS_z (S : St) (d sz : Nat) : nilS S () d sz .z = some (S.root d [] (.rs d 0 0 sz)) := rfl
def bslS (S : St) (_ : Tg S) (d n sz : Nat) (o : Option (List AV)) : Option St := match o with | some cs => some (S.root d cs (.rs d 0 n sz)) | none => none
theorem sv_bslR (call : CallF) (S : St) (d n : Nat) (zero : List AV) (parts : List (Nat × Nat × Operand)) : step call ⟨some d, .bslR n zero parts, none⟩ S = bslS S () d n zero.length (fillV (evalO S.s) parts (zrep zero n)) := by
  rw [st_bslR]; simp only [stepK, bslS]
  cases fillV (evalO S.s) parts (zrep zero n) <;> rfl
theorem bslS_some (S : St) (d n sz : Nat) (cs : List AV) : bslS S () d n sz (some cs) = some (S.root d cs (.rs d 0 n sz)) := rfl

/-! ### Two operands -/

def binI (op : BinOp) (k k' : IntKind) (a c : Int) : Option AV :=
  match op with
  | .shl => shiftV .shl k a c
  | .shr => shiftV .shr k a c
  | op => bif decide (k = k') then intV op k a c else none
theorem binV_i (ek : EqKind) (op : BinOp) (k k' : IntKind) (a c : Int) : binV ek op (.i k a) (.i k' c) = binI op k k' a c := by
  cases op <;> rfl
theorem binI_shl (k k' : IntKind) (a c : Int) : binI .shl k k' a c = shiftV .shl k a c := rfl
theorem binI_shr (k k' : IntKind) (a c : Int) : binI .shr k k' a c = shiftV .shr k a c := rfl
theorem binI_same (op : BinOp) (k : IntKind) (a c : Int) (h1 : op ≠ .shl) (h2 : op ≠ .shr) : binI op k k a c = intV op k a c := by
  cases op <;> simp [binI] <;> contradiction
theorem binI_eqs : (∀ k a c, binI .add k k a c = some (.i k (k.wrap (a + c)))) ∧ (∀ k a c, binI .sub k k a c = some (.i k (k.wrap (a - c)))) ∧ (∀ k a c, binI .mul k k a c = some (.i k (k.wrap (a * c)))) ∧
    (∀ k a c, binI .quo k k a c = intV .quo k a c) ∧ (∀ k a c, binI .rem k k a c = intV .rem k a c) ∧
    (∀ k a c, binI .eql k k a c = some (.b (decide (a = c)))) ∧ (∀ k a c, binI .neq k k a c = some (.b (!decide (a = c)))) ∧ (∀ k a c, binI .lss k k a c = some (.b (decide (a < c)))) ∧ (∀ k a c, binI .leq k k a c = some (.b (decide (a ≤ c)))) ∧
    (∀ k a c, binI .gtr k k a c = some (.b (decide (c < a)))) ∧ (∀ k a c, binI .geq k k a c = some (.b (decide (c ≤ a)))) ∧
    (∀ k a c, binI .and k k a c = bitV .and k a c) ∧ (∀ k a c, binI .or k k a c = bitV .or k a c) ∧ (∀ k a c, binI .xor k k a c = bitV .xor k a c) ∧ (∀ k a c, binI .andNot k k a c = bitV .andNot k a c) := by
  refine ⟨?_, ?_, ?_, ?_, ?_, ?_, ?_, ?_, ?_, ?_, ?_, ?_, ?_, ?_, ?_⟩ <;> intros <;> simp [binI, intV]
/-- A slice that has elements is not nil. -/
theorem binV_slcE {cs : List AV} {n : Nat} {y : AV} (h : 0 < cs.length) : binV .slc .eql (.sl cs n) y = some (.b false) := by
  match cs, h with
  | c :: cs, _ => cases y <;> rfl
theorem binV_slcN {cs : List AV} {n : Nat} {y : AV} (h : 0 < cs.length) : binV .slc .neq (.sl cs n) y = some (.b true) := by
  match cs, h with
  | c :: cs, _ => cases y <;> rfl
theorem binV_eqs : (∀ x y, binV .bool .eql (.b x) (.b y) = some (.b (x == y))) ∧ (∀ x y, binV .bool .neq (.b x) (.b y) = some (.b (!(x == y)))) ∧
    (∀ g h, binV .iface .eql (.er g) (.er h) = some (.b (Nat.beq g h))) ∧ (∀ g h, binV .ifaceC .eql (.er g) (.er h) = some (.b (Nat.beq g h))) ∧ (∀ g h, binV .iface .neq (.er g) (.er h) = some (.b (!Nat.beq g h))) ∧ (∀ g h, binV .ifaceC .neq (.er g) (.er h) = some (.b (!Nat.beq g h))) ∧
    (∀ g, binV .iface .eql (.er g) .nl = some (.b false)) ∧ (∀ g, binV .ifaceC .eql (.er g) .nl = some (.b false)) ∧ (∀ g, binV .iface .neq (.er g) .nl = some (.b true)) ∧ (∀ g, binV .ifaceC .neq (.er g) .nl = some (.b true)) ∧
    (∀ g, binV .iface .eql .nl (.er g) = some (.b false)) ∧ (∀ g, binV .ifaceC .eql .nl (.er g) = some (.b false)) ∧ (∀ g, binV .iface .neq .nl (.er g) = some (.b true)) ∧ (∀ g, binV .ifaceC .neq .nl (.er g) = some (.b true)) ∧
    (binV .ifaceC .eql .nl .nl = some (.b true)) ∧ (binV .ifaceC .neq .nl .nl = some (.b false)) ∧
    (binV .ptr .eql .np .np = some (.b true)) ∧ (binV .ptr .neq .np .np = some (.b false)) ∧ (∀ d o, binV .ptr .eql (.rf d o) .np = some (.b false)) ∧ (∀ d o, binV .ptr .neq (.rf d o) .np = some (.b true)) ∧
    (∀ cs o, binV .ptr .eql (.el cs o) .np = some (.b false)) ∧ (∀ cs o, binV .ptr .neq (.el cs o) .np = some (.b true)) ∧
    (∀ t cs, binV .iface .eql (.ie t cs) .nl = some (.b false)) ∧ (∀ t cs, binV .ifaceC .eql (.ie t cs) .nl = some (.b false)) ∧ (∀ t cs, binV .iface .neq (.ie t cs) .nl = some (.b true)) ∧ (∀ t cs, binV .ifaceC .neq (.ie t cs) .nl = some (.b true)) ∧
    (binV .slc .eql .z .z = some (.b true)) ∧ (binV .slc .neq .z .z = some (.b false)) := by
  refine ⟨?_, ?_, ?_, ?_, ?_, ?_, ?_, ?_, ?_, ?_, ?_, ?_, ?_, ?_, ?_, ?_, ?_, ?_, ?_, ?_, ?_, ?_, ?_, ?_, ?_, ?_, ?_, ?_⟩ <;> intros <;> rfl

/-! ### Calls of values -/

def callT (call : CallF) (l : List (Nat × List AV)) (args : List AV) (_ : Tg2 call l) (f : AV) : Option AV :=
  match f with
  | .fn f [] =>
    (match toArgs l args with
     | some vs =>
       (match call f vs with
        | some ⟨r, []⟩ => bif anyRs [] args && hasSl r then none else fromRet r
        | _ => none)
     | none => none)
  | _ => none
theorem st_callT (call : CallF) (S : St) (dst : Option Nat) (t : Nat) (l : List Operand) : step call ⟨dst, .call (.tmp t) l, none⟩ S = optPut S dst () (callT call S.l (evalL (evalO S.s) l) () (get S.s t)) := by
  show (readV call (evalO S.s) S.l (.call (.tmp t) l)).map (S.putD dst) = _
  simp only [readV, evalO, callT]
  rfl
theorem callT_fn (call : CallF) (l : List (Nat × List AV)) (args : List AV) (f : Nat) : callT call l args () (.fn f []) = (match toArgs l args with
     | some vs =>
       (match call f vs with
        | some ⟨r, []⟩ => bif anyRs [] args && hasSl r then none else fromRet r
        | _ => none)
     | none => none) := rfl

theorem zrep_eqs : (∀ a, zrep [a] 1 = [a]) ∧ (∀ a, zrep [a] 2 = [a, a]) ∧ (∀ a, zrep [a] 3 = [a, a, a]) ∧ (∀ a, zrep [a] 4 = [a, a, a, a]) ∧ (∀ a, zrep [a] 5 = [a, a, a, a, a]) ∧ (∀ a, zrep [a] 6 = [a, a, a, a, a, a]) ∧ (∀ a, zrep [a] 7 = [a, a, a, a, a, a, a]) ∧ (∀ a, zrep [a] 8 = [a, a, a, a, a, a, a, a]) ∧ (∀ a, zrep [a] 9 = [a, a, a, a, a, a, a, a, a]) ∧ (∀ a, zrep [a] 10 = [a, a, a, a, a, a, a, a, a, a]) ∧ (∀ a, zrep [a] 11 = [a, a, a, a, a, a, a, a, a, a, a]) ∧ (∀ a, zrep [a] 12 = [a, a, a, a, a, a, a, a, a, a, a, a]) ∧ (∀ a, zrep [a] 13 = [a, a, a, a, a, a, a, a, a, a, a, a, a]) ∧ (∀ a, zrep [a] 14 = [a, a, a, a, a, a, a, a, a, a, a, a, a, a]) ∧ (∀ a, zrep [a] 15 = [a, a, a, a, a, a, a, a, a, a, a, a, a, a, a]) ∧ (∀ a, zrep [a] 16 = [a, a, a, a, a, a, a, a, a, a, a, a, a, a, a, a]) := by
  refine ⟨?_, ?_, ?_, ?_, ?_, ?_, ?_, ?_, ?_, ?_, ?_, ?_, ?_, ?_, ?_, ?_⟩ <;> intros <;> rfl

theorem setR2 (a b c d : AV) : setR (some [a, b]) 0 2 (some [c, d]) = some [c, d] := rfl
theorem setR3 (a b c d e f : AV) : setR (some [a, b, c]) 0 3 (some [d, e, f]) = some [d, e, f] := rfl

/-! ### Calls that lend, or give back what is to be written -/

def recvPut (d : Nat) (o : Option (St × AV)) : Option St := match o with | some (S2, v) => some (S2.putD (some d) v) | none => none
theorem recvPut_some (d : Nat) (s : List (Nat × AV)) (l : List (Nat × List AV)) (v : AV) : recvPut d (some (⟨s, l⟩, v)) = some ⟨put s d v, l⟩ := rfl
def recvD (dst : Option Nat) (own : List (Nat × Nat)) (r : AV) (S : St) : Option St := match dst with | some d => recvPut d (recv S d own r) | none => some S
theorem recvD_some (d : Nat) (own : List (Nat × Nat)) (r : AV) (S : St) : recvD (some d) own r S = recvPut d (recv S d own r) := rfl
theorem recvD_none (own : List (Nat × Nat)) (r : AV) (S : St) : recvD none own r S = some S := rfl
def callK4 (dst : Option Nat) (own : List (Nat × Nat)) (r : AV) (b : Bool) (o : Option St) : Option St := match o with | some S1 => if b = true then recvD dst (unmv own) r S1 else none | none => none
theorem callK4_some (dst : Option Nat) (own : List (Nat × Nat)) (r : AV) (S : St) : callK4 dst own r true (some S) = recvD dst (unmv own) r S := rfl
def callK3 (S : St) (dst : Option Nat) (own : List (Nat × Nat)) (_ : Tg S) (as : List AV) (ds ch : List Nat) (r : Option Ret) : Option St :=
  match r with
  | some ⟨r, lent⟩ => bif anyRs (mvOf own) as && (hasSl r || hasSlLL lent) then none else callK4 dst own r (stays (unmv own) ch ds lent) (afterK S ds ch lent)
  | none => none
def callK2 (call : CallF) (S : St) (dst : Option Nat) (own : List (Nat × Nat)) (_ : Tg2 call S) (f : Nat) (as : List AV) (o : Option (List AV × List Nat × List Nat)) : Option St :=
  match o with
  | some (vs, ds, ch) => if (seesAny (mvOf own) (ds ++ ch) as || !nodupB (ds ++ ch)) = true ∨ okEnter ds vs = false ∨ awayB ds (nolOf own) = false then none else callK3 S dst own () as ds ch (call f vs)
  | none => none
def callK1 (call : CallF) (S : St) (dst : Option Nat) (own : List (Nat × Nat)) (_ : Tg2 call S) (xs : List AV) (f : AV) : Option St :=
  match f with
  | .fn f caps => callK2 call S dst own () f (xs ++ caps) (lends (mvOf own) S.l (xs ++ caps))
  | _ => none
theorem stepK_call (call : CallF) (S : St) (dst : Option Nat) (f : Operand) (xs : List Operand) (own : List (Nat × Nat)) : stepK call S dst (.callK f xs own) = callK1 call S dst own () (evalL (evalO S.s) xs) (evalO S.s f) := by
  simp only [stepK, callK1]
  cases evalO S.s f <;> try rfl
  rename_i f caps
  simp only [callK2]
  cases lends (mvOf own) S.l (evalL (evalO S.s) xs ++ caps) with
  | none => rfl
  | some p =>
    obtain ⟨vs, ds, ch⟩ := p
    simp only
    cases h1 : (seesAny (mvOf own) (ds ++ ch) (evalL (evalO S.s) xs ++ caps) || !nodupB (ds ++ ch)) <;> cases h2 : okEnter ds vs <;> cases h3 : awayB ds (nolOf own) <;> simp only [Bool.not_true, Bool.not_false, Bool.or_true, Bool.or_false, cond_true, cond_false, reduceCtorEq, or_self, or_true, or_false, if_true, if_false, true_or] <;> try rfl
    simp only [callK3]
    cases call f vs with
    | none => rfl
    | some r =>
      obtain ⟨r, lent⟩ := r
      simp only
      cases (anyRs (mvOf own) (evalL (evalO S.s) xs ++ caps) && (hasSl r || hasSlLL lent)) <;> simp only [cond_true, cond_false] <;> try rfl
      simp only [callK4, recvD, recvPut]
      cases afterK S ds ch lent with
      | none => rfl
      | some S1 =>
        simp only
        cases stays (unmv own) ch ds lent <;> simp only [cond_true, cond_false, if_true, if_false, reduceCtorEq] <;> try rfl
def callF8 (call : CallF) (dst : Option Nat) (f : Operand) (xs : List Operand) (own : List (Nat × Nat)) (o : Option St) : Option St := match o with | some S1 => callK1 call S1 dst own () (evalL (evalO S1.s) xs) (evalO S1.s f) | none => none
theorem callF8_some (call : CallF) (dst : Option Nat) (f : Operand) (xs : List Operand) (own : List (Nat × Nat)) (s : List (Nat × AV)) (l : List (Nat × List AV)) : callF8 call dst f xs own (some ⟨s, l⟩) = callK1 call ⟨s, l⟩ dst own () (evalL (evalO s) xs) (evalO s f) := rfl
def callK0 (b : Bool) (call : CallF) (S : St) (dst : Option Nat) (_ : Tg2 call S) (f : Operand) (xs : List Operand) (own : List (Nat × Nat)) : Option St :=
  if b = true then callF8 call dst f xs own.tail (freezes S (rsOf (evalL (evalO S.s) xs))) else callK1 call S dst own () (evalL (evalO S.s) xs) (evalO S.s f)
theorem callK0_f (call : CallF) (S : St) (dst : Option Nat) (f : Operand) (xs : List Operand) (own : List (Nat × Nat)) : callK0 false call S dst () f xs own = callK1 call S dst own () (evalL (evalO S.s) xs) (evalO S.s f) := rfl
theorem callK0_t (call : CallF) (S : St) (dst : Option Nat) (f : Operand) (xs : List Operand) (p : Nat × Nat) (own : List (Nat × Nat)) : callK0 true call S dst () f xs (p :: own) = callF8 call dst f xs own (freezes S (rsOf (evalL (evalO S.s) xs))) := rfl
theorem m8_nil : m8 [] = false := rfl
theorem m8_88 (r : List (Nat × Nat)) : m8 ((8, 8) :: r) = true := rfl
theorem m8_no {j k : Nat} {r : List (Nat × Nat)} (h : j ≠ 8) : m8 ((j, k) :: r) = false := by
  unfold m8
  split
  · rename_i e
    simp only [List.cons.injEq, Prod.mk.injEq] at e
    exact absurd e.1.1 h
  · rfl
theorem rsOf_nil : rsOf [] = [] := rfl
theorem rsOf_cons (x : AV) (r : List AV) : rsOf (x :: r) = rs1 x ++ rsOf r := rfl
theorem sv_callK (call : CallF) (S : St) (dst : Option Nat) (f : Operand) (xs : List Operand) (own : List (Nat × Nat)) : step call ⟨dst, .callK f xs own, none⟩ S = callK0 (m8 own) call S dst () f xs own := by
  rw [st_callK]
  unfold stepC callK0 callF8
  cases hm : m8 own
  · simp only [mark8, hm, cond_false, stepK_call, Bool.false_eq_true, if_false]
  · simp only [mark8, hm, cond_true, if_true]
    cases freezes S (rsOf (evalL (evalO S.s) xs)) with
    | none => rfl
    | some S1 => simp only [stepK_call]

theorem callK1_fn (call : CallF) (S : St) (dst : Option Nat) (own : List (Nat × Nat)) (xs : List AV) (f : Nat) (caps : List AV) : callK1 call S dst own () xs (.fn f caps) = callK2 call S dst own () f (xs ++ caps) (lends (mvOf own) S.l (xs ++ caps)) := rfl
theorem callK2_some (call : CallF) (S : St) (dst : Option Nat) (own : List (Nat × Nat)) (f : Nat) (as vs : List AV) (ds ch : List Nat) : callK2 call S dst own () f as (some (vs, ds, ch)) = if (seesAny (mvOf own) (ds ++ ch) as || !nodupB (ds ++ ch)) = true ∨ okEnter ds vs = false ∨ awayB ds (nolOf own) = false then none else callK3 S dst own () as ds ch (call f vs) := rfl
theorem callK3_some (S : St) (dst : Option Nat) (own : List (Nat × Nat)) (as : List AV) (ds ch : List Nat) (r : AV) (lent : List (List AV)) : callK3 S dst own () as ds ch (some ⟨r, lent⟩) = bif anyRs (mvOf own) as && (hasSl r || hasSlLL lent) then none else callK4 dst own r (stays (unmv own) ch ds lent) (afterK S ds ch lent) := rfl

/-! ### Behind a call -/

theorem backL_nil : backL [] [] = some ([], []) := rfl
def backC (d : Nat) (cs : List AV) (o : Option (List (Nat × List AV) × List (Nat × List AV))) : Option (List (Nat × List AV) × List (Nat × List AV)) :=
  match o with | some (a, b) => if d < 1000000000000 then some ((d, cs) :: a, b) else some ((d, scatL d 0 cs) :: a, rowsL d 0 cs ++ b) | none => none
theorem backC_some (d : Nat) (cs : List AV) (a b : List (Nat × List AV)) : backC d cs (some (a, b)) = if d < 1000000000000 then some ((d, cs) :: a, b) else some ((d, scatL d 0 cs) :: a, rowsL d 0 cs ++ b) := rfl
theorem backL_cons (d : Nat) (ds : List Nat) (cs : List AV) (css : List (List AV)) : backL (d :: ds) (cs :: css) = backC d cs (backL ds css) := by
  simp only [backL, backC]
  cases backL ds css with
  | none => rfl
  | some p => obtain ⟨a, b⟩ := p; simp only [isRef_if]
def afterB (S : St) (ch : List Nat) (_ : Tg S) (o : Option (List (Nat × List AV) × List (Nat × List AV))) : Option St :=
  match o with
  | some (a, b) => if (nodupB (keys a ++ keys b) && allCh (keys b)) = true then some (putRS (S.kills (ch ++ keys b)) b a) else none
  | none => none
theorem afterB_some (S : St) (ch : List Nat) (a b : List (Nat × List AV)) : afterB S ch () (some (a, b)) = if (nodupB (keys a ++ keys b) && allCh (keys b)) = true then some (putRS (S.kills (ch ++ keys b)) b a) else none := rfl
theorem afterK_nil (S : St) : afterK S [] [] [] = some S := rfl
theorem afterK_cons (S : St) (d : Nat) (ds ch : List Nat) (lent : List (List AV)) : afterK S (d :: ds) ch lent = afterB S ch () (backL (d :: ds) lent) := by
  simp only [afterK, afterB]
  cases backL (d :: ds) lent with
  | none => rfl
  | some p => obtain ⟨a, b⟩ := p; simp only [Bool.cond_eq_ite]; rfl
theorem stays_cons (p : Nat × Nat) (o : List (Nat × Nat)) (ch ds : List Nat) (lent : List (List AV)) : stays (p :: o) ch ds lent = true := rfl
def staysB (o : Option (List (Nat × List AV) × List (Nat × List AV))) : Bool := match o with | some (_, b) => b.isEmpty | none => false
theorem staysB_some (a b : List (Nat × List AV)) : staysB (some (a, b)) = b.isEmpty := rfl
theorem stays_nil (ds : List Nat) (lent : List (List AV)) : stays [] [] ds lent = staysB (backL ds lent) := by
  simp only [stays, staysB, List.isEmpty_nil, Bool.true_and]; rfl
theorem hasSlLL_nil : hasSlLL [] = false := rfl
theorem hasSlLL_cons (x : List AV) (r : List (List AV)) : hasSlLL (x :: r) = (hasSlCL x || hasSlLL r) := rfl
theorem nums_hasSlC (k : IntKind) : ∀ (L : List Int), hasSlCL (nums k L) = false
  | [] => rfl
  | x :: L => by simp only [nums_cons, hasSlCL, hasSlC, hasSl1, Bool.false_or]; exact nums_hasSlC k L
theorem bools_hasSlC : ∀ (L : List Bool), hasSlCL (bools L) = false
  | [] => rfl
  | x :: L => by simp only [bools_cons, hasSlCL, hasSlC, hasSl1, Bool.false_or]; exact bools_hasSlC L

/-! ### Results, received -/

def recvV (S : St) (_ : Tg S) (o : Option AV) : Option (St × AV) := match o with | some v => some (S, v) | none => none
theorem recvV_some (S : St) (v : AV) : recvV S () (some v) = some (S, v) := rfl
theorem recv_no (S : St) (d : Nat) (v : AV) : recv S d [] v = recvV S () (fromRet v) := by cases v <;> rfl
theorem recv_seven (S : St) (d : Nat) (o : List (Nat × Nat)) (v : AV) : recv S d ((7, 7) :: o) v = recvV S () (fromRet v) := by cases v <;> rfl
def recvR (S : St) (_ : Tg S) (o : Option (AV × List (Nat × List AV))) : Option (St × AV) := match o with | some (v, rows) => if nodupB (keys rows) = true then some (S.takeRows rows, v) else none | none => none
theorem recvR_some (S : St) (v : AV) (rows : List (Nat × List AV)) : recvR S () (some (v, rows)) = if nodupB (keys rows) = true then some (S.takeRows rows, v) else none := rfl
/-- Is it no tuple? -/
def notTp : AV → Bool
  | .tp _ => false
  | _ => true
theorem recv_one (S : St) (d j t : Nat) (o : List (Nat × Nat)) (v : AV) (h : ¬ (j = 7 ∧ t = 7)) (hv : notTp v = true) : recv S d ((j, t) :: o) v = recvR S () (take1 d v) := by
  have key : recv S d ((j, t) :: o) v = (match take1 d v with | some (v, rows) => bif nodupB (keys rows) then some (S.takeRows rows, v) else none | none => none) := by
    unfold recv
    split
    · simp_all
    · simp_all [notTp]
    · rfl
    · simp_all
  rw [key]
  unfold recvR
  cases take1 d v with
  | none => rfl
  | some p => obtain ⟨v, rows⟩ := p; simp only [Bool.cond_eq_ite]
theorem recv_os (S : St) (d j t : Nat) (o : List (Nat × Nat)) (cs : List AV) (n sz : Nat) (h : ¬ (j = 7 ∧ t = 7)) : recv S d ((j, t) :: o) (.os cs n sz) = recvR S () (take1 d (.os cs n sz)) := recv_one S d j t o _ h rfl
theorem recv_op (S : St) (d j t : Nat) (o : List (Nat × Nat)) (cs : List AV) (h : ¬ (j = 7 ∧ t = 7)) : recv S d ((j, t) :: o) (.op cs) = recvR S () (take1 d (.op cs)) := recv_one S d j t o _ h rfl
theorem recv_oq (S : St) (d j t : Nat) (o : List (Nat × Nat)) (cs : List AV) (h : ¬ (j = 7 ∧ t = 7)) : recv S d ((j, t) :: o) (.oq cs) = recvR S () (take1 d (.oq cs)) := recv_one S d j t o _ h rfl
theorem recv_aq (S : St) (d j t : Nat) (o : List (Nat × Nat)) (cs : List AV) (h : ¬ (j = 7 ∧ t = 7)) : recv S d ((j, t) :: o) (.aq cs) = recvR S () (take1 d (.aq cs)) := recv_one S d j t o _ h rfl
theorem recv_fn (S : St) (d j t : Nat) (o : List (Nat × Nat)) (f : Nat) (cs : List AV) (h : ¬ (j = 7 ∧ t = 7)) : recv S d ((j, t) :: o) (.fn f cs) = recvR S () (take1 d (.fn f cs)) := recv_one S d j t o _ h rfl
theorem recv_ag (S : St) (d j t : Nat) (o : List (Nat × Nat)) (cs : List AV) (h : ¬ (j = 7 ∧ t = 7)) : recv S d ((j, t) :: o) (.ag cs) = recvR S () (take1 d (.ag cs)) := recv_one S d j t o _ h rfl
theorem recv_sl (S : St) (d j t : Nat) (o : List (Nat × Nat)) (cs : List AV) (n : Nat) (h : ¬ (j = 7 ∧ t = 7)) : recv S d ((j, t) :: o) (.sl cs n) = recvR S () (take1 d (.sl cs n)) := recv_one S d j t o _ h rfl
theorem recv_z (S : St) (d j t : Nat) (o : List (Nat × Nat))  (h : ¬ (j = 7 ∧ t = 7)) : recv S d ((j, t) :: o) (.z) = recvR S () (take1 d (.z)) := recv_one S d j t o _ h rfl
theorem recv_np (S : St) (d j t : Nat) (o : List (Nat × Nat))  (h : ¬ (j = 7 ∧ t = 7)) : recv S d ((j, t) :: o) (.np) = recvR S () (take1 d (.np)) := recv_one S d j t o _ h rfl
theorem recv_nl (S : St) (d j t : Nat) (o : List (Nat × Nat))  (h : ¬ (j = 7 ∧ t = 7)) : recv S d ((j, t) :: o) (.nl) = recvR S () (take1 d (.nl)) := recv_one S d j t o _ h rfl
theorem recv_er (S : St) (d j t : Nat) (o : List (Nat × Nat)) (g : Nat) (h : ¬ (j = 7 ∧ t = 7)) : recv S d ((j, t) :: o) (.er g) = recvR S () (take1 d (.er g)) := recv_one S d j t o _ h rfl
theorem recv_ie (S : St) (d j t : Nat) (o : List (Nat × Nat)) (t' : Nat) (cs : List AV) (h : ¬ (j = 7 ∧ t = 7)) : recv S d ((j, t) :: o) (.ie t' cs) = recvR S () (take1 d (.ie t' cs)) := recv_one S d j t o _ h rfl
theorem recv_fl (S : St) (d j t : Nat) (o : List (Nat × Nat)) {x : AV} (hx : x.flat = true) (h : ¬ (j = 7 ∧ t = 7)) : recv S d ((j, t) :: o) x = recvR S () (take1 d x) := recv_one S d j t o _ h (by cases x <;> first | rfl | cases hx)
def recvT3 (S : St) (rows : List (Nat × List AV)) (j : Nat) (v : AV) (_ : Tg S) (o : Option (List AV)) : Option (St × AV) := match o with | some vs => some (S.takeRows rows, .tp (vs.set j v)) | none => none
theorem recvT3_some (S : St) (rows : List (Nat × List AV)) (j : Nat) (v : AV) (vs : List AV) : recvT3 S rows j v () (some vs) = some (S.takeRows rows, .tp (vs.set j v)) := rfl
def recvT2 (S : St) (j : Nat) (l : List AV) (_ : Tg S) (o : Option (AV × List (Nat × List AV))) : Option (St × AV) :=
  match o with
  | some (v, rows) => if (plain v && nodupB (keys rows)) = true then recvT3 S rows j v () (fromRetL (l.set j .un)) else none
  | none => none
theorem recvT2_some (S : St) (j : Nat) (l : List AV) (v : AV) (rows : List (Nat × List AV)) : recvT2 S j l () (some (v, rows)) = if (plain v && nodupB (keys rows)) = true then recvT3 S rows j v () (fromRetL (l.set j .un)) else none := rfl
def recvT (S : St) (d j : Nat) (l : List AV) (_ : Tg S) (x : Option AV) : Option (St × AV) :=
  match x with
  | some x => if d + 1000 * (j + 1) < 1000000 then recvT2 S j l () (take1 (d + 1000 * (j + 1)) x) else none
  | none => recvV S () (fromRet (.tp l))
theorem recvT_some (S : St) (d j : Nat) (l : List AV) (x : AV) : recvT S d j l () (some x) = if d + 1000 * (j + 1) < 1000000 then recvT2 S j l () (take1 (d + 1000 * (j + 1)) x) else none := rfl
theorem recv_tp (S : St) (d j t : Nat) (o : List (Nat × Nat)) (l : List AV) (h : ¬ (j = 7 ∧ t = 7)) : recv S d ((j, t) :: o) (.tp l) = recvT S d j l () l[j]? := by
  have key : recv S d ((j, t) :: o) (.tp l) = (match l[j]? with
     | some x =>
       bif Nat.blt (d + 1000 * (j + 1)) 1000000 then
         (match take1 (d + 1000 * (j + 1)) x with
          | some (v, rows) => bif plain v && nodupB (keys rows) then (match fromRetL (l.set j .un) with | some vs => some (S.takeRows rows, .tp (vs.set j v)) | none => none) else none
          | none => none) else none
     | none => (match fromRet (.tp l) with | some v => some (S, v) | none => none)) := by
    match j, t, h with
    | 7, 7, h => exact absurd ⟨rfl, rfl⟩ h
    | 0, t, _ | 1, t, _ | 2, t, _ | 3, t, _ | 4, t, _ | 5, t, _ | 6, t, _ | n + 8, t, _ => rfl
    | 7, 0, _ | 7, 1, _ | 7, 2, _ | 7, 3, _ | 7, 4, _ | 7, 5, _ | 7, 6, _ | 7, n + 8, _ => rfl
  rw [key]
  unfold recvT
  cases l[j]? with
  | none => rfl
  | some x =>
    have e : Nat.blt (d + 1000 * (j + 1)) 1000000 = decide (d + 1000 * (j + 1) < 1000000) := by rw [Bool.eq_iff_iff, Nat.blt_eq, decide_eq_true_iff]
    simp only [e, Bool.cond_eq_ite, decide_eq_true_eq]
    split
    · cases take1 (d + 1000 * (j + 1)) x with
      | none => rfl
      | some p =>
        obtain ⟨v, rows⟩ := p
        show _ = if (plain v && nodupB (keys rows)) = true then _ else _
        simp only []
        split
        · cases fromRetL (l.set j .un) <;> rfl
        · rfl
    · rfl
theorem take1_os (D : Nat) (cs : List AV) (n sz : Nat) : take1 D (.os cs n sz) = some (.rs D 0 n sz, [(D, cs)]) := rfl
theorem take1_op (D : Nat) (cs : List AV) : take1 D (.op cs) = some (.rf D 0, [(D, cs)]) := rfl
theorem take1_oq (D : Nat) (cs : List AV) : take1 D (.oq cs) = if allCh (keys (rowsL (1000000000000 + D) 0 cs)) = true then some (.rf (1000000000000 + D) 0, rowsL (1000000000000 + D) 0 cs ++ [(1000000000000 + D, scatL (1000000000000 + D) 0 cs)]) else none := by
  simp only [take1, Bool.cond_eq_ite]
theorem take1_aq (D : Nat) (cs : List AV) : take1 D (.aq cs) = if allCh (keys (rowsL D 0 cs)) = true then some (.aq (scatL D 0 cs), rowsL D 0 cs) else none := by
  simp only [take1, Bool.cond_eq_ite]
theorem take1_fn (D f : Nat) (c : AV) (cs : List AV) : take1 D (.fn f (c :: cs)) = if allCh (keys (rowsL D 0 (c :: cs))) = true then some (.fn f (scatL D 0 (c :: cs)), rowsL D 0 (c :: cs)) else none := by
  simp only [take1, Bool.cond_eq_ite]
theorem take1_eqs (D : Nat) : (E1 fun x => take1 D x = some (x, [])) ∧
    (E2 fun x => take1 D x = some (x, [])) ∧
    (E4 fun x => take1 D x = some (x, [])) ∧
    (∀ (cs : List AV), take1 D (.ag cs) = some ((.ag cs), [])) ∧
    (∀ (l : List AV), take1 D (.tp l) = none) ∧
    (∀ (cs : List AV) (j' : Nat), take1 D (.el cs j') = some ((.el cs j'), [])) ∧
    (∀ (g : Nat), take1 D (.fn g []) = some ((.fn g []), [])) := by
  repeat' apply And.intro
  all_goals (intros; first | rfl | (simp only [kill1, frz1, frz2, List.isEmpty_iff, countR, Bool.cond_eq_ite, Nat.beq_eq]))
theorem notTp_eqs  : (E1 fun x => notTp x = true) ∧
    (E2 fun x => notTp x = true) ∧
    (E4 fun x => notTp x = true) ∧
    (E5 fun x => notTp x = true) ∧
    (E6 fun x => notTp x = true) ∧
    (∀ (cs : List AV), notTp (.ag cs) = true) ∧
    (∀ (l : List AV), notTp (.tp l) = false) ∧
    (∀ (cs : List AV) (j' : Nat), notTp (.el cs j') = true) := by
  repeat' apply And.intro
  all_goals (intros; first | rfl | (simp only [kill1, frz1, frz2, List.isEmpty_iff, countR, Bool.cond_eq_ite, Nat.beq_eq]))


end Zab

namespace Zab
open Go
set_option linter.unusedVariables false

/-- Lengths: one set of rules. -/
theorem lenS : (∀ {α : Type} (a : α) (l : List α), (a :: l).length = l.length + 1) ∧ (∀ {α : Type}, ([] : List α).length = 0) ∧ (∀ {α : Type} (l : List α) (i : Nat) (a : α), (l.set i a).length = l.length) ∧
    (∀ {α : Type} (l m : List α), (l ++ m).length = l.length + m.length) ∧ (∀ {α : Type} (n : Nat) (a : α), (List.replicate n a).length = n) ∧ (∀ {α β : Type} (f : α → β) (l : List α), (l.map f).length = l.length) ∧
    (∀ n : Nat, (List.range n).length = n) ∧ (∀ {α : Type} (i : Nat) (l : List α), (l.take i).length = min i l.length) ∧ (∀ {α : Type} (i : Nat) (l : List α), (l.drop i).length = l.length - i) ∧
    (∀ (k : IntKind) (L : List Int), (nums k L).length = L.length) ∧ (∀ L : List Bool, (bools L).length = L.length) ∧ (∀ (k : IntKind) (L : List (List Int)), (vecs k L).length = L.length) :=
  ⟨fun _ _ => rfl, rfl, fun _ _ _ => List.length_set, fun _ _ => List.length_append, fun _ _ => List.length_replicate, fun _ _ => List.length_map _, fun _ => List.length_range, fun _ _ => List.length_take, fun _ _ => List.length_drop, nums_length, bools_length, vecs_length⟩

section
variable {F : CallF} {S : St} {Q : Ex → St → Prop}

/-- A loop whose head is met with so many states, one behind the other; it may be left at each. -/
theorem w_heads {ks kr : List Nat} {a : AC} (n : Nat) (hd : Nat → St) (h0 : S.clean ks kr = hd 0)
    (step : ∀ i, i < n → W F a (hd i) fun e S1 => match e with | .normal => S1.clean ks kr = hd (i + 1) | e => Q e S1)
    (last : W F a (hd n) fun e S1 => match e with | .normal => False | e => Q e S1) : W F (.loop ks kr a) S Q := by
  refine w_rounds (I := fun m S => ∃ i, i ≤ n ∧ m = n - i ∧ S.clean ks kr = hd i) (m := n) ?_ ⟨0, Nat.zero_le _, rfl, h0⟩
  rintro m S ⟨i, hi, rfl, hS⟩
  rw [hS]
  by_cases h : i < n
  · refine (step i h).mono fun e S1 h1 => ?_
    cases e with
    | normal => exact ⟨n - (i + 1), by omega, i + 1, by omega, rfl, h1⟩
    | ret => exact h1
    | exit id => exact h1
  · have : i = n := by omega
    subst this
    refine last.mono fun e S1 h1 => ?_
    cases e with
    | normal => exact h1.elim
    | ret => exact h1
    | exit id => exact h1


/-- A loop over bytes, so many at once, by the states between its rounds. -/
theorem w_rngs {f : Nat} {g : Operand} {p : Nat} {ks kr : List Nat} {a b : AC} {its : List AV} (hd : Nat → St) (hi : rngItems f (evalO S.s g) = some its) (h0 : S.clean ks kr = hd 0)
    (step : ∀ i (h : i < its.length), W F a { hd i with s := put (hd i).s p its[i] } (inR F b (nextR ks kr (fun S => S = hd (i + 1)) Q)))
    (last : Q .normal (hd its.length)) : W F (.rng f g p ks kr a b) S Q := by
  refine w_rng hi (wr_inv (fun j S => S = hd j) (j := 0) h0 (fun i h S hS => ?_) (fun S hS => ?_))
  · rw [Nat.zero_add] at hS
    subst hS
    have := step i h
    simpa using this
  · rw [Nat.zero_add] at hS
    subst hS; exact last

/-- Bytes in whole parts. -/
theorem chunks_eq (k : Nat) (hk : 1 ≤ k) : ∀ (q fuel : Nat) (cs : List AV), q * k ≤ fuel → chunks k fuel (q * k) cs = (List.range q).map fun j => .sl ((cs.drop (j * k)).take k) k
  | 0, fuel, cs, _ => by cases fuel <;> simp [chunks]
  | q + 1, 0, cs, h => by
    have : (q + 1) * k = 0 := by omega
    rw [Nat.add_mul] at this; omega
  | q + 1, fuel + 1, cs, h => by
    have e : (q + 1) * k = q * k + k := by rw [Nat.add_mul, Nat.one_mul]
    have hb : Nat.beq ((q + 1) * k) 0 = false := by rw [← Bool.not_eq_true, Nat.beq_eq]; omega
    have hm : min k ((q + 1) * k) = k := by omega
    have ih := chunks_eq k hk q fuel (cs.drop k) (by omega)
    simp only [chunks, hb, cond_false, hm]
    rw [show (q + 1) * k - k = q * k by omega, ih, List.range_succ_eq_map, List.map_cons, List.map_map]
    congr 1
    · simp
    · apply List.map_congr_left
      intro j _
      simp only [Function.comp, List.drop_drop]
      rw [show k + j * k = j.succ * k by rw [Nat.succ_mul]; omega]
theorem items_eq {f k q : Nat} {cs : List AV} (hk : 1 ≤ k) (hk2 : k ≤ 2305843009213693952) (hq : q * k ≤ 2305843009213693952) : rngItems f (.fn f [.el [.sl cs (q * k)] 0, .el [.i .i64 (k : Int)] 0]) = some ((List.range q).map fun j => .sl ((cs.drop (j * k)).take k) k) := by
  have h1 : (1 : Int) ≤ (k : Int) := by omega
  have h2 : (k : Int) ≤ 2305843009213693952 := by omega
  simp [rngItems, itemsOf, Nat.beq_refl, h1, h2, hq, chunks_eq k hk q (q * k) cs (Nat.le_refl _)]

/-- The same, with what holds at each head. -/
theorem w_headsP {ks kr : List Nat} {a : AC} (n : Nat) (hd : Nat → St) (P : Nat → Prop) (h0 : S.clean ks kr = hd 0) (p0 : P 0)
    (step : ∀ i, i < n → P i → W F a (hd i) fun e S1 => match e with | .normal => S1.clean ks kr = hd (i + 1) ∧ P (i + 1) | e => Q e S1)
    (last : P n → W F a (hd n) fun e S1 => match e with | .normal => False | e => Q e S1) : W F (.loop ks kr a) S Q := by
  refine w_rounds (I := fun m S => ∃ i, i ≤ n ∧ m = n - i ∧ S.clean ks kr = hd i ∧ P i) (m := n) ?_ ⟨0, Nat.zero_le _, rfl, h0, p0⟩
  rintro m S ⟨i, hi, rfl, hS, hp⟩
  rw [hS]
  by_cases h : i < n
  · refine (step i h hp).mono fun e S1 h1 => ?_
    cases e with
    | normal => exact ⟨n - (i + 1), by omega, i + 1, by omega, rfl, h1⟩
    | ret => exact h1
    | exit id => exact h1
  · have : i = n := by omega
    subst this
    refine (last hp).mono fun e S1 h1 => ?_
    cases e with
    | normal => exact h1.elim
    | ret => exact h1
    | exit id => exact h1

/-- A loop that comes to one of so many states, and what follows from there. -/
theorem w_reach {ks kr : List Nat} {a : AC} (T : Int → St) (R : Int → Prop) (tail : ∀ i, R i → W F a (T i) fun e S1 => match e with | .normal => False | e => Q e S1)
    (reach : ∃ (n : Nat) (hd : Nat → St) (j : Int), S.clean ks kr = hd 0 ∧ hd n = T j ∧ R j ∧ ∀ i, i < n → W F a (hd i) fun e S1 => match e with | .normal => S1.clean ks kr = hd (i + 1) | e => Q e S1) : W F (.loop ks kr a) S Q := by
  obtain ⟨n, hd, j, h0, h1, hR, h2⟩ := reach
  exact w_heads n hd h0 h2 (by rw [h1]; exact tail j hR)

end

/-! ### Lists that are filled -/

/-- The first numbers are there. -/
def fillTo (g : Nat → Int) (N i : Nat) : List Int := (List.range N).map fun j => if j < i then g j else 0
theorem fillTo_len (g : Nat → Int) (N i : Nat) : (fillTo g N i).length = N := by simp [fillTo]
theorem fillTo_zero (g : Nat → Int) (N : Nat) : fillTo g N 0 = List.replicate N 0 := by
  unfold fillTo
  apply List.ext_getElem (by simp)
  intro j p q
  simp
theorem fillTo_all (g : Nat → Int) (N : Nat) : fillTo g N N = (List.range N).map g := by
  unfold fillTo
  apply List.map_congr_left
  intro j hj
  rw [if_pos (List.mem_range.1 hj)]
theorem fillTo_set (g : Nat → Int) {N i : Nat} (h : i < N) : (fillTo g N i).set i (g i) = fillTo g N (i + 1) := by
  unfold fillTo
  apply List.ext_getElem (by simp)
  intro j p q
  simp only [List.getElem_set, List.getElem_map, List.getElem_range]
  by_cases e : i = j
  · subst e; simp
  · simp only [e, if_false]
    by_cases h2 : j < i
    · rw [if_pos h2, if_pos (by omega)]
    · rw [if_neg h2, if_neg (by omega)]

theorem mapTo_succ (g : Nat → Int) (i : Nat) : (List.range (i + 1)).map g = (List.range i).map g ++ [g i] := by
  rw [List.range_succ, List.map_append]; rfl
theorem mapTo_of (f : Int → Int) (L : List Int) : (List.range L.length).map (fun j => f (ni L j)) = L.map f := by
  apply List.ext_getElem (by simp)
  intro j p q
  simp only [List.getElem_map, List.getElem_range]
  rw [ni_get (by simpa using q)]
theorem ni_map {g : Nat → Int} {N j : Nat} (h : j < N) : ni ((List.range N).map g) j = g j := by
  rw [ni_get (by simpa using h)]
  simp

theorem ni_app (L M : List Int) (j : Nat) : ni (L ++ M) j = if j < L.length then ni L j else ni M (j - L.length) := by
  simp only [ni, List.getD_eq_getElem?_getD, List.getElem?_append]
  split <;> rfl

/-- Slices of numbers. -/
def IsLs (k : IntKind) (xs : List AV) (Ls : List (List Int)) : Prop := xs.length = Ls.length ∧ ∀ j (h1 : j < xs.length) (h2 : j < Ls.length), IsL k xs[j] Ls[j]
theorem IsLs.nil (k : IntKind) : IsLs k [] [] := ⟨rfl, fun j h => by simp at h⟩
theorem IsLs.cons {k : IntKind} {x : AV} {L : List Int} {xs : List AV} {Ls : List (List Int)} (h : IsL k x L) (hs : IsLs k xs Ls) : IsLs k (x :: xs) (L :: Ls) :=
  ⟨by simp [hs.1], fun j h1 h2 => by
    cases j with
    | zero => exact h
    | succ j => exact hs.2 j (Nat.lt_of_succ_lt_succ h1) (Nat.lt_of_succ_lt_succ h2)⟩
theorem IsLs.one {k : IntKind} {x : AV} {L : List Int} (h : IsL k x L) : IsLs k [x] [L] := .cons h (.nil k)
theorem IsLs.two {k : IntKind} {x y : AV} {L M : List Int} (h : IsL k x L) (h' : IsL k y M) : IsLs k [x, y] [L, M] := .cons h (.cons h' (.nil k))

/-- Both ways of a branch come to the same state. -/
theorem w_join {F : CallF} {c : Operand} {a b : AC} {K : Ex → St → Prop} {S1 : St} {t : Bool} (ks kr : List Nat) (S2 : St) (hc : evalO S1.s c = .b t)
    (ha : t = true → W F a S1 fun e S => e = .normal ∧ S.clean ks kr = S2) (hb : t = false → W F b S1 fun e S => e = .normal ∧ S.clean ks kr = S2) (hr : ∀ S, S.clean ks kr = S2 → K .normal S) : W F (.cond c a b) S1 K := by
  refine w_cond hc ?_
  cases t with
  | false =>
    rw [if_neg (by simp)]
    exact (hb rfl).mono fun e S h => by obtain ⟨rfl, h⟩ := h; exact hr S h
  | true =>
    rw [if_pos rfl]
    exact (ha rfl).mono fun e S h => by obtain ⟨rfl, h⟩ := h; exact hr S h
end Zab

