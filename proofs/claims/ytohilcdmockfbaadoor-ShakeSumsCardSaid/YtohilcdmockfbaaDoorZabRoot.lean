/- New rows, and rows that grow. No statement of the program stands here. -/
import Derived.Test.YtohilcdmockfbaaDoorZabMem
namespace Zab
open Go
set_option linter.unusedSimpArgs false
set_option linter.unusedVariables false

section
variable {C : Ctx} {A K : Nat → Nat} {S : St} {a : Act} {w : World} {o : Oper} {r : AV}

theorem still_mono_new (R : Rel C A K S a w) {d k : Nat} {cs : List AV} {ob : Obj} {b : Nat} (hb : Still C A K S.l w b) :
    Still C (upd A d w.heap.size) (upd K d k) (put (del S.l d) d cs) (w.alloc ob) b := by
  refine ⟨Nat.lt_of_lt_of_le hb.1 (Grew.alloc w ob).size, hb.2.1, fun e he => ?_⟩
  rcases live_upd.1 he with ⟨rfl, _⟩ | ⟨hne, hl⟩
  · rw [upd_same]; have := hb.1; omega
  · rw [upd_other _ _ _ hne]; exact hb.2.2 e hl

/-- Slot d makes a row: a new block. -/
theorem Rel.newRow (R : Rel C A K S a w) {d : Nat} (hnp : C.np ≤ d) {cs : List AV} {l ext : List Value} {e : TypeId} (hr : RepL C.E w (Still C A K S.l w) cs l) :
    Rel C (upd A d w.heap.size) (upd K d (l ++ ext).length) { s := mapS (kill1 d) S.s, l := put (del S.l d) d cs } a (w.alloc (.cells (l ++ ext).toArray e)) := by
  have G := Grew.alloc w (.cells (l ++ ext).toArray e)
  have hsz : (w.alloc (.cells (l ++ ext).toArray e)).heap[w.heap.size]? = some (.cells (l ++ ext).toArray e (0, 0)) := by
    show (w.heap.push _)[w.heap.size]? = _
    simp
  refine R.reroot hnp G.size (fun b' hb' _ => G.block b' hb') rfl rfl rfl (fun _ => ⟨.inl R.size, fun hx => by have := R.xlt _ hx; have := R.size; omega, fun hf => by have := fixed_lt R.glob hf; omega⟩)
    (fun _ b' hb' => by have := hb'.1; omega) (fun _ e' _ hl => by have := Live.lt R hl; omega) (Row.ofList hsz rfl (by rw [hr.1]; simp) ?_)
  rw [hr.1, List.take_left]
  exact hr.mono (fun b hb => still_mono_new R hb) (fun b hb => G.block b hb.1)

/-- .. and its slot. -/
theorem Rel.newSlot {A' K' : Nat → Nat} {S' : St} {w' : World} (R : Rel C A' K' S' a w') {d : Nat} (hd : d < C.nt) {x : AV} {v : Value} (h : VRep C.E C.np w' (Still C A' K' S'.l w') A' K' x v) :
    Rel C A' K' { S' with s := put S'.s d x } (a.put (some d) v) w' := R.set1 hd h

theorem VRep.rfv {E : Env} {np : Nat} {N : Nat → Prop} {d off : Nat} {v : Value} (h : v = .pointer (some ⟨A d, off, none⟩)) : VRep E np w N A K (.rf d off) v := by
  subst h; exact .one (.rf d off)

/-- What an operation that turns slots comes to. -/
def KOk (C : Ctx) (a : Act) (w : World) (o : Oper) (S' : St) : Prop :=
  ∃ v w' A' K', (execOp a.eval o).run C.E.P w = .ok (.value v) w' ∧ Rel C A' K' S' (a.put o.dst v) w'

theorem KOk.mk {A' K' : Nat → Nat} {v : Value} {w' : World} {d : Nat} {s : List (Nat × AV)} {x : AV} {l : List (Nat × List AV)} (hdst : o.dst = some d) (hnt : d < C.nt) (hrun : (execOp a.eval o).run C.E.P w = .ok (.value v) w') (hR : Rel C A' K' ⟨s, l⟩ a w')
    (hv : VRep C.E C.np w' (Still C A' K' l w') A' K' x v) : KOk C a w o ⟨put s d x, l⟩ :=
  ⟨v, w', A', K', hrun, by rw [hdst]; exact hR.newSlot hnt hv⟩

theorem k_box (R : Rel C A K S a w) {e : TypeId} {sz d : Nat} {v : Operand} (ho : o.op = .box e v) (hdst : o.dst = some d) (hnp : C.np ≤ d) (hnt : d < C.nt) {cs : List AV} (h : cellsOf (sz + 1) (evalO S.s v) = some cs) :
    KOk C a w o (S.root d cs (.rf d 0)) := by
  obtain ⟨hr, hlen⟩ := cells_sound (R.eval v) h
  have R1 := R.newRow (ext := []) (e := e) hnp hr
  have hrun : (execOp a.eval o).run C.E.P w = .ok (.value (.pointer (some ⟨w.heap.size, 0, none⟩))) (w.alloc (.cells ((a.eval v).cells.toList ++ []).toArray e)) := by
    simp only [execOp, ho]
    refine run_v ?_
    simp [Instr.box, newVar, Go.newRow, newObj, Sem.run, World.alloc_eq]
  exact KOk.mk hdst hnt hrun R1 (VRep.rfv (by rw [upd_same]))

theorem k_alloc (R : Rel C A K S a w) {e : TypeId} {d : Nat} {zs : List AV} (ho : o.op = .alloc e) (hdst : o.dst = some d) (hnp : C.np ≤ d) (hnt : d < C.nt) (hz : (zeroOfT C.E.P e).bind zeroCellsOf = some zs) :
    KOk C a w o (S.root d zs (.rf d 0)) := by
  cases hz0 : zeroOfT C.E.P e with
  | none => simp [hz0] at hz
  | some v0 =>
    simp only [hz0, Option.bind_some] at hz
    have hr := zero_cells (E := C.E) (N := Still C A K S.l w) (w := w) hz
    have R1 := R.newRow (ext := []) (e := e) hnp hr
    have hrun : (execOp a.eval o).run C.E.P w = .ok (.value (.pointer (some ⟨w.heap.size, 0, none⟩))) (w.alloc (.cells (v0.cells.toList ++ []).toArray e)) := by
      simp only [execOp, ho]
      refine run_v ?_
      simp [Instr.alloc, run_zeroValue hz0, newVar, Go.newRow, newObj, Sem.run, World.alloc_eq]
    exact KOk.mk hdst hnt hrun R1 (VRep.rfv (by rw [upd_same]))

/-- A new row of a slice. -/
theorem k_slice (R : Rel C A K S a w) {e : TypeId} {d n c sz : Nat} {cs : List AV} {l ext : List Value} (hdst : o.dst = some d) (hnp : C.np ≤ d) (hnt : d < C.nt) (hr : RepL C.E w (Still C A K S.l w) cs l) (hnc : n ≤ c) (hc : (l ++ ext).length = c * sz)
    (hrun : (execOp a.eval o).run C.E.P w = .ok (.value (.slice (some ⟨w.heap.size, 0, none⟩) n c)) (w.alloc (.cells (l ++ ext).toArray e))) : KOk C a w o (S.root d cs (.rs d 0 n sz)) := by
  have R1 := R.newRow (ext := ext) (e := e) hnp hr
  refine KOk.mk hdst hnt hrun R1 (.one (.rs d 0 n sz _ c hnp hnc ?_ fun _ => ?_))
  · rw [upd_same, hc]; omega
  · rw [upd_same]

theorem k_mkR (R : Rel C A K S a w) {t e : TypeId} {sz b d : Nat} {zs : List AV} {l c : Operand} {n m : Int} (ho : o.op = .makeSlice t l c) (hdst : o.dst = some d) (hnp : C.np ≤ d) (hnt : d < C.nt) (ht : C.E.P.underlying t = some (.slice e)) (hsz : sizeOfT C.E.P e = some (sz + 1)) (hb : bytesOfT C.E.P e = some (b + 1))
    (hz : (zeroOfT C.E.P e).bind zeroCellsOf = some zs) (hzl : zs.length = sz + 1) (h1 : evalO S.s l = .i .i64 n) (h2 : evalO S.s c = .i .i64 m) (h0 : 0 ≤ n) (hnm : n ≤ m) (hm : m.toNat * (b + 1) ≤ 140737488355328) :
    KOk C a w o (S.root d (zrep zs n.toNat) (.rs d 0 n.toNat zs.length)) := by
  have hl := R.eval l
  have hc := R.eval c
  rw [h1] at hl
  rw [h2] at hc
  obtain ⟨n, rfl⟩ : ∃ k : Nat, n = k := ⟨n.toNat, by omega⟩
  obtain ⟨m, rfl⟩ : ∃ k : Nat, m = k := ⟨m.toNat, by omega⟩
  simp only [Int.toNat_natCast] at hm ⊢
  cases hz0 : zeroOfT C.E.P e with
  | none => simp [hz0] at hz
  | some v0 =>
    simp only [hz0, Option.bind_some] at hz
    have hrz := zero_cells (E := C.E) (N := Still C A K S.l w) (w := w) hz
    have hvsz : v0.cells.size = sz + 1 := by have := hrz.1; simp at this; omega
    have hsplit : (List.replicate m v0.cells.toList).flatten = (List.replicate n v0.cells.toList).flatten ++ (List.replicate (m - n) v0.cells.toList).flatten := by
      rw [← List.flatten_append, List.replicate_append_replicate]; congr 2; omega
    refine k_slice (e := e) (ext := (List.replicate (m - n) v0.cells.toList).flatten) (c := m) R hdst hnp hnt (hrz.flatten_rep n) (by omega) ?_ ?_
    · rw [← hsplit]; simp [hvsz, hzl]
    · simp only [execOp, ho, vrep_int hl, vrep_int hc]
      rw [← hsplit]
      exact run_v (run_mk ht hsz hb hz0 hvsz (by omega) hm w)

theorem k_bslR (R : Rel C A K S a w) {t e : TypeId} {n sz d : Nat} {parts : Array (Nat × Operand)} {zs : List AV} (ho : o.op = .buildSlice t n parts) (hdst : o.dst = some d) (hnp : C.np ≤ d) (hnt : d < C.nt)
    (ht : C.E.P.underlying t = some (.slice e)) (hsz : sizeOfT C.E.P e = some (sz + 1)) (hz : (zeroOfT C.E.P e).bind zeroCellsOf = some zs) (hzl : zs.length = sz + 1) (hle : n * (sz + 1) ≤ 16777216) {cs : List AV}
    (hf : fillV (evalO S.s) (rowParts (sz + 1) parts.toList) (zrep zs n) = some cs) : KOk C a w o (S.root d cs (.rs d 0 n zs.length)) := by
  obtain ⟨l', hr, hrun⟩ := p_bsl R ho ht hsz hz hzl hle hf
  have hlen : l'.length = n * zs.length := by
    rw [← hr.1]
    have key : ∀ (ps : List (Nat × Nat × Operand)) (c c' : List AV), fillV (evalO S.s) ps c = some c' → c'.length = c.length := by
      intro ps
      induction ps with
      | nil => intro c c' h; cases h; rfl
      | cons p ps ih =>
        obtain ⟨off, s', x⟩ := p
        intro c c' h
        simp only [fillV] at h
        cases hc : cellsOf s' (evalO S.s x) with
        | none => simp [hc] at h
        | some vs =>
          simp only [hc] at h
          obtain ⟨_, hlen⟩ := cells_sound (R.eval x) hc
          cases hb : Nat.ble (off + s') c.length
          · simp [hb] at h
          · simp only [hb, cond_true] at h
            have hle := Nat.le_of_ble_eq_true hb
            match vs, hlen, h with
            | [], hl, h => rw [ih _ _ h]; unfold over; simp only [List.length_append, List.length_take, List.length_drop, List.length_nil] at hl ⊢; omega
            | [u], _, h => rw [ih _ _ h]; simp
            | u1 :: u2 :: us, hl, h => rw [ih _ _ h]; unfold over; simp only [List.length_append, List.length_take, List.length_drop] at hl ⊢; omega
    rw [key _ _ _ hf]; simp [zrep]
  refine k_slice (ext := []) (c := n) (e := e) R hdst hnp hnt hr (Nat.le_refl _) (by simpa using hlen) ?_
  simpa using hrun

theorem k_nilR (R : Rel C A K S a w) {x : Operand} {d sz : Nat} (ho : o.op = .assign x) (hdst : o.dst = some d) (hnp : C.np ≤ d) (hnt : d < C.nt) (h : evalO S.s x = .z) : KOk C a w o (S.root d [] (.rs d 0 0 sz)) := by
  have hx := R.eval x
  rw [h] at hx
  obtain ⟨base, hv⟩ := vrep_z hx
  have R1 : Rel C (upd A d 0) (upd K d 0) { s := mapS (kill1 d) S.s, l := put (del S.l d) d [] } a w :=
    R.reroot hnp (Nat.le_refl _) (fun _ _ _ => rfl) rfl rfl rfl (fun h => by omega) (fun h => by omega) (fun h => by omega) ⟨by simp, fun h => by omega⟩
  refine KOk.mk (v := .slice base 0 0) hdst hnt (by simp only [execOp, ho, hv]; rfl) R1 (.one (.rs d 0 0 sz _ 0 hnp (Nat.le_refl _) ?_ fun h => ?_))
  · simp
  · rw [upd_same] at h; omega

end
end Zab
