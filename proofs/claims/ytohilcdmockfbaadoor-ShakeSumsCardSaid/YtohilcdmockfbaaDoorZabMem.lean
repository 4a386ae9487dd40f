/- The abstract machine's operations on memory stand for the model's. No statement of the program stands here. -/
import Derived.Test.YtohilcdmockfbaaDoorZabPur3
namespace Zab
open Go
set_option linter.unusedSimpArgs false
set_option linter.unusedVariables false

/-! ### Stores, by blocks -/

theorem setCells_meta (b : Nat) : ∀ (vs : List Value) (o : Nat) (w : World), (w.setCells b o vs).os = w.os ∧ (w.setCells b o vs).tape = w.tape ∧ (w.setCells b o vs).output = w.output ∧ (w.setCells b o vs).heap.size = w.heap.size ∧
    ∀ k, k ≠ b → (w.setCells b o vs).heap[k]? = w.heap[k]?
  | [], _, _ => ⟨rfl, rfl, rfl, rfl, fun _ _ => rfl⟩
  | v :: r, o, w => by
    obtain ⟨h1, h2, h3, h4, h5⟩ := setCells_meta b r (o + 1) (w.setCell ⟨b, o, none⟩ v)
    rw [World.setCells]
    refine ⟨h1, h2, h3, by rw [h4]; simp [World.setCell], fun k hk => ?_⟩
    rw [h5 k hk]
    simp only [World.setCell, Array.getElem?_modify]
    rw [if_neg (fun e => hk e.symm)]

theorem setCells_row (b : Nat) (e : TypeId) : ∀ (vs : List Value) (o : Nat) (w : World) (cc : List Value), w.heap[b]? = some (.cells cc.toArray e (0, 0)) → o + vs.length ≤ cc.length →
    (w.setCells b o vs).heap[b]? = some (.cells (cc.take o ++ (vs ++ cc.drop (o + vs.length))).toArray e (0, 0))
  | [], o, w, cc, h, _ => by simpa [World.setCells] using h
  | v :: r, o, w, cc, h, hle => by
    simp only [List.length_cons] at hle
    have h1 : (w.setCell ⟨b, o, none⟩ v).heap[b]? = some (.cells (cc.set o v).toArray e (0, 0)) := by
      simp [World.setCell, Array.getElem?_modify, h]
    have := setCells_row b e r (o + 1) _ (cc.set o v) h1 (by simp; omega)
    rw [World.setCells, this]
    congr 3
    rw [List.set_eq_take_append_cons_drop, if_pos (by omega)]
    apply List.ext_getElem?
    intro n
    simp only [List.getElem?_append, List.length_take, List.length_append, List.length_cons, List.getElem?_take, List.getElem?_drop, List.getElem?_cons, List.length_drop]
    repeat' split
    all_goals first | omega | rfl | skip
    all_goals (congr 1; omega)

section
variable {C : Ctx} {A K : Nat → Nat} {S : St} {a : Act} {w : World} {o : Oper} {r : AV}

/-- A row's cells, as a list. -/
theorem Row.list {E : Env} {N : Nat → Prop} {blk k : Nat} {cs : List AV} (h : Row E w N blk k cs) (hk : 0 < k) : ∃ (cc : List Value) (e : TypeId), w.heap[blk]? = some (.cells cc.toArray e (0, 0)) ∧ cc.length = k ∧ RepL E w N cs (cc.take cs.length) := by
  obtain ⟨cc, e, h1, h2, h3⟩ := h.row hk
  refine ⟨cc.toList, e, by simpa using h1, by simpa using h2, ?_, fun j p q => ?_⟩
  · have := h.le; simp; omega
  · obtain ⟨v, hv, hf⟩ := h3 j p
    simp only [List.getElem_take]
    have : cc[j]? = some (cc.toList[j]'(by simp at q ⊢; omega)) := by simp; 
    rw [this] at hv
    cases hv
    exact hf

theorem Row.ofList {E : Env} {N : Nat → Prop} {blk k : Nat} {cs : List AV} {cc : List Value} {e : TypeId} (h1 : w.heap[blk]? = some (.cells cc.toArray e (0, 0))) (h2 : cc.length = k) (hle : cs.length ≤ k) (hr : RepL E w N cs (cc.take cs.length)) : Row E w N blk k cs where
  le := hle
  row := fun _ => ⟨cc.toArray, e, h1, by simpa using h2, fun j hj => by
    have hj' : j < (cc.take cs.length).length := by rw [← hr.1]; exact hj
    refine ⟨(cc.take cs.length)[j], ?_, hr.2 j hj hj'⟩
    simp only [List.getElem_take]
    simp⟩

theorem cell_of {b j : Nat} {cc : List Value} {e : TypeId} (h : w.heap[b]? = some (.cells cc.toArray e (0, 0))) : w.cell? ⟨b, j, none⟩ = cc[j]? := by
  simp [World.cell?, h]

/-- A variable of type t is read out of cells that are told. -/
theorem read_sound {P : Program} {E : Env} {np : Nat} {N : Nat → Prop} {t : TypeId} {m : Option Nat} (hm : aggOfT P t = some m) {b o : Nat} {cs : List AV} {f : Nat → Value}
    (hc : ∀ j, j < cs.length → w.cell? ⟨b, j, none⟩ = some (f j)) (hf : ∀ j (hj : j < cs.length), FRep E w N cs[j] (f j)) {r : AV} (hp : partV cs o m = some r) :
    ∃ v, (loadVar t ⟨b, o, none⟩).run P w = .ok v w ∧ VRep E np w N A K r v := by
  rcases agg_of hm with ⟨rfl, hag⟩ | ⟨n, i, rfl, hi, hs, ⟨d, hu, hd⟩, hag⟩
  · simp only [partV] at hp
    obtain ⟨hj, rfl⟩ := List.getElem?_eq_some_iff.1 hp
    exact ⟨f o, by simp [loadVar, hag, hc o hj], .one (.flat (hf o hj))⟩
  · simp only [partV] at hp
    cases hb : Nat.ble (o + n) cs.length
    · simp [hb] at hp
    · simp only [hb, cond_true, Option.some.injEq] at hp
      subst hp
      have hle := Nat.le_of_ble_eq_true hb
      have hlen : ((List.range n).map fun j => f (o + j)).length = n := by simp
      refine ⟨.agg ((List.range n).map fun j => f (o + j)).toArray, run_loadVar_mid w b o t _ d (fun j v hv => ?_) hu hd (by simp [hi, hs]), VRep.agL ⟨by simp; omega, fun j h1 h2 => ?_⟩⟩
      · obtain ⟨hj, rfl⟩ := List.getElem?_eq_some_iff.1 hv
        simp only [List.length_map, List.length_range] at hj
        simpa using hc (o + j) (by omega)
      · simp only [List.length_map, List.length_range] at h2
        simp only [List.getElem_take, List.getElem_drop, List.getElem_map, List.getElem_range]
        exact hf _ _

/-- A load. -/
theorem load_sound {sents : List Nat} (hE : EnvOk C.E sents) (R : Rel C A K S a w) {call : CallF} {t : TypeId} {m : Option Nat} {x : Operand} (ho : o.op = .load t x) (hm : aggOfT C.E.P t = some m) (hg : ∀ g, x = .global g → memb sents g = true)
    (h : readV call (evalO S.s) S.l (.load m x) = some r) : PureOk C A K S a w o r := by
  have hx := R.eval x
  have ev : ∀ b off v, a.eval x = .pointer (some ⟨b, off, none⟩) → (loadVar t ⟨b, off, none⟩).run C.E.P w = .ok v w → (execOp a.eval o).run C.E.P w = .ok (.value v) w := fun b off v hv hr => by
    simp only [execOp, ho, hv]
    refine run_v ?_
    simp [Instr.loadAt, Instr.sureAddr, hr]
  by_cases hxg : ∃ g, x = .global g
  · obtain ⟨g, rfl⟩ := hxg
    simp only [readV] at h
    split at h <;> cases h
    rcases agg_of hm with ⟨_, hag⟩ | ⟨n, i, hh, _⟩
    · obtain ⟨b, hb⟩ := Option.isSome_iff_exists.1 (hE.sent g (hg g rfl))
      refine PureOk.of (ev g 0 (C.E.errV b) rfl ?_) (.one (.flat (.er g b hb)))
      simp [loadVar, hag, R.glob.var g b hb]
    · cases hh
  have h' : (match evalO S.s x with
    | .rf d o => (match look S.l d with | some cs => partV cs o m | none => none)
    | .el cs o => partV cs o m
    | _ => none) = some r := by
    cases x <;> first | exact h | exact absurd ⟨_, rfl⟩ hxg
  clear h
  have h := h'
  clear h'
  split at h
  · rename_i d off hX
    rw [hX] at hx
    cases hl : look S.l d with
    | none => simp [hl] at h
    | some cs =>
      simp only [hl] at h
      have hrow := R.row d cs hl
      by_cases hk : 0 < K d
      · obtain ⟨cc, e, h1, h2, h3⟩ := hrow.list hk
        have hlen := h3.1
        obtain ⟨v, hv, hr⟩ := read_sound (w := w) (E := C.E) (np := C.np) (A := A) (K := K) (N := Still C A K S.l w) (b := A d) (f := fun j => (cc.take cs.length).getD j undef) hm (fun j hj => by
          rw [cell_of h1]
          have hj' : j < (cc.take cs.length).length := by rw [← hlen]; exact hj
          simp only [List.length_take] at hj'
          simp [hj, show j < cc.length by omega]) (fun j hj => by
          have hj' : j < (cc.take cs.length).length := by rw [← hlen]; exact hj
          have := h3.2 j hj hj'
          simpa [List.getElem?_eq_getElem hj'] using this) h
        exact PureOk.of (ev _ _ _ (vrep_rf hx) hv) hr
      · have : cs = [] := by have := hrow.le; cases cs <;> simp_all
        subst this
        obtain ⟨v, hv, hr⟩ := read_sound (w := w) (E := C.E) (np := C.np) (A := A) (K := K) (N := Still C A K S.l w) (b := A d) (f := fun _ => undef) hm (fun j hj => by simp at hj) (fun j hj => by simp at hj) h
        exact PureOk.of (ev _ _ _ (vrep_rf hx) hv) hr
  · rename_i cs off hX
    rw [hX] at hx
    obtain ⟨blk, o', f, hv, hN, hc, h1⟩ := vrep_el hx
    -- the cells from o' on
    rcases agg_of hm with ⟨rfl, hag⟩ | ⟨n, i, rfl, hi, hs, ⟨d, hu, hd⟩, hag⟩
    · simp only [partV] at h
      obtain ⟨hj, rfl⟩ := List.getElem?_eq_some_iff.1 h
      exact PureOk.of (ev _ _ _ hv (by simp [loadVar, hag, hc off hj])) (.one (.flat (h1 off hj)))
    · simp only [partV] at h
      cases hb : Nat.ble (off + n) cs.length
      · simp [hb] at h
      · simp only [hb, cond_true, Option.some.injEq] at h
        subst h
        have hle := Nat.le_of_ble_eq_true hb
        refine PureOk.of (v := .agg ((List.range n).map fun j => f (off + j)).toArray) (ev _ _ _ hv (run_loadVar_mid w blk (o' + off) t _ d (fun j v hv => ?_) hu hd (by simp [hi, hs]))) (VRep.agL ⟨by simp; omega, fun j p q => ?_⟩)
        · obtain ⟨hj, rfl⟩ := List.getElem?_eq_some_iff.1 hv
          simp only [List.length_map, List.length_range] at hj
          have := hc (off + j) (by omega)
          simpa [Nat.add_assoc] using this
        · simp only [List.length_map, List.length_range] at q
          simp only [List.getElem_take, List.getElem_drop, List.getElem_map, List.getElem_range]
          exact h1 _ _
  · cases h

/-- A store. -/
theorem store_sound (R : Rel C A K S a w) {t : TypeId} {sz : Nat} {x v : Operand} (ho : o.op = .store t x v) (hz : sizeOfT C.E.P t = some sz) {l' : List (Nat × List AV)} (h : writeV (evalO S.s) S.l (.store sz x v) = some l') :
    ∃ w', (execOp a.eval o).run C.E.P w = .ok .skip w' ∧ Rel C A K { S with l := l' } a w' := by
  have hx := R.eval x
  have hv := R.eval v
  obtain ⟨i, hi, hiz⟩ := size_info hz
  simp only [writeV] at h
  split at h <;> first | (cases h; done) | skip
  rename_i d off vs hX hV
  rw [hX] at hx
  obtain ⟨hr, hlen⟩ := cells_sound hv hV
  cases hl : look S.l d with
  | none => simp [hl] at h
  | some cs =>
    simp only [hl] at h
    cases hb : Nat.ble (off + sz) cs.length
    · simp [hb] at h
    · simp only [hb, cond_true] at h
      have hle := Nat.le_of_ble_eq_true hb
      have hl' : l' = put S.l d (over cs off vs) := by
        revert h
        match vs, hlen with
        | [], _ => intro h; cases h; rfl
        | [u], hl => 
          intro h
          have : over cs off [u] = cs.set off u := by
            unfold over
            simp only [List.length_cons, List.length_nil] at hl
            rw [List.set_eq_take_append_cons_drop, if_pos (by omega)]
            simp
          rw [this]; cases h; rfl
        | _ :: _ :: _, _ => intro h; cases h; rfl
      subst hl'
      have hrow := R.row d cs hl
      have hvl : (a.eval v).cells.toList.length = sz := by rw [← hr.1]; exact hlen
      have hvs : (a.eval v).cells.size = sz := by simpa using hvl
      by_cases hk : 0 < K d
      · obtain ⟨cc, e, h1, h2, h3⟩ := hrow.list hk
        have hcs := hrow.le
        have hcl : ∀ j, j < cc.length → (w.cell? ⟨A d, j, none⟩).isSome = true := fun j hj => by rw [cell_of h1]; simp [hj]
        have hfz : ∀ j, w.frozen? ⟨A d, j, none⟩ = false := fun j => by simp [World.frozen?, h1]
        have hrun := run_storeCells_cells (P := C.E.P) (A d) off (a.eval v).cells.toList 0 w (fun j hj => hcl _ (by omega)) (fun j hj => hfz _) hr.one
        simp only [Nat.add_zero] at hrun
        refine ⟨w.setCells (A d) off (a.eval v).cells.toList, ?_, ?_⟩
        · simp only [execOp, ho, vrep_rf hx]
          have : (a.eval v).cells.size = sz := by simpa using hvl
          simp [Instr.storeAt, Instr.sureAddr, storeVar, Go.sizeOf, run_typeInfo hi, hiz, this, hrun]
        · obtain ⟨m1, m2, m3, m4, m5⟩ := setCells_meta (A d) (a.eval v).cells.toList off w
          have hnew := setCells_row (A d) e (a.eval v).cells.toList off w cc h1 (by omega)
          refine R.setRow (d := d) (cs := over cs off vs) (by rw [hl]; simp) hk m4.symm m5 m1 m2 m3 (Row.ofList hnew (by simp; omega) (by unfold over; simp; omega) ?_)
          have hst : ∀ b, Still C A K S.l w b → (w.setCells (A d) off (a.eval v).cells.toList).heap[b]? = w.heap[b]? := fun b hb => m5 b fun e => hb.2.2 d ⟨by rw [hl]; simp, hk⟩ e.symm
          have hover := (h3.over off hr).mono (fun b hb => hb) hst
          have e1 : (over cs off vs).length = cs.length := by unfold over; simp; omega
          rw [e1]
          have : (cc.take off ++ ((a.eval v).cells.toList ++ cc.drop (off + (a.eval v).cells.toList.length))).take cs.length =
              (cc.take cs.length).take off ++ ((a.eval v).cells.toList ++ (cc.take cs.length).drop (off + (a.eval v).cells.toList.length)) := by
            apply List.ext_getElem?
            intro n
            simp only [List.getElem?_take, List.getElem?_append, List.length_take, List.getElem?_drop]
            repeat' split
            all_goals first | omega | rfl | skip
            all_goals (first | (congr 1; omega) | (symm; apply List.getElem?_eq_none; omega) | (apply List.getElem?_eq_none; omega))
          rw [this]; exact hover
      · have : cs = [] := List.length_eq_zero_iff.1 (by have := hrow.le; omega)
        subst this
        simp only [List.length_nil, Nat.le_zero_eq, Nat.add_eq_zero_iff] at hle
        obtain ⟨rfl, rfl⟩ := hle
        have hnil : vs = [] := by cases vs <;> simp_all
        subst hnil
        refine ⟨w, ?_, ?_⟩
        · simp only [execOp, ho, vrep_rf hx]
          have h0 : (a.eval v).cells = #[] := by
            have : (a.eval v).cells.toList = [] := List.length_eq_zero_iff.1 hvl
            simpa using this
          simp [Instr.storeAt, Instr.sureAddr, storeVar, Go.sizeOf, run_typeInfo hi, hiz, h0, storeCells]
        · have he : over ([] : List AV) 0 [] = [] := rfl
          rw [he]
          refine R.less (fun e => ?_) (fun i => ?_)
          · left; show look (put S.l d []) e = _; rw [look_put]; by_cases h : e = d
            · subst h; simp [hl]
            · simp [h]
          · refine (R.slot i).mono (fun b hb => ⟨hb.1, hb.2.1, fun e he => hb.2.2 e ?_⟩) (fun _ _ => rfl) (fun _ _ => ⟨rfl, rfl⟩)
            exact (live_put (by rw [hl]; simp)).1 he
end
end Zab
