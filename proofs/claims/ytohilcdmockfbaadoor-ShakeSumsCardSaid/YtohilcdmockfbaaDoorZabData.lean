/- What came in, by value: from the reading of an argument to the abstract machine's values. No statement of the program stands here. -/
import Derived.Test.YtohilcdmockfbaaDoorZabVal
import Derived.Test.YtohilcdmockfbaaDoorZabPure
import Derived.Test.YtohilcdmockfbaaDoorZabEnd
import Derived.ChangeArms
import Derived.DataReads
import Derived.ChangeOld
import Derived.DataElems
namespace Zab
open Go
set_option linter.unusedVariables false
set_option linter.unusedSimpArgs false

theorem flatten_get {α : Type} {c : Nat} : ∀ (ls : List (List α)), (∀ l ∈ ls, l.length = c) → ∀ (j : Nat) (hj : j < ls.flatten.length), ∃ (h1 : j / c < ls.length) (h2 : j % c < ls[j / c].length), ls.flatten[j] = ls[j / c][j % c]
  | [], h, j, hj => by simp at hj
  | l :: r, h, j, hj => by
    have hl : l.length = c := h l (by simp)
    have hr : ∀ x ∈ r, x.length = c := fun x hx => h x (by simp [hx])
    have hc : 0 < c := by
      apply Nat.pos_of_ne_zero
      rintro rfl
      have : (l :: r).flatten.length = 0 := by
        rw [List.length_flatten]
        have : ((l :: r).map List.length) = List.replicate (r.length + 1) 0 := by
          apply List.ext_getElem (by simp)
          intro i p q
          simp only [List.getElem_map, List.getElem_replicate]
          exact h _ (List.getElem_mem _)
        rw [this]; simp
      omega
    by_cases hlt : j < c
    · have e1 : j / c = 0 := Nat.div_eq_of_lt hlt
      have e2 : j % c = j := Nat.mod_eq_of_lt hlt
      refine ⟨by rw [e1]; simp, by simp only [e1, e2, List.getElem_cons_zero]; omega, ?_⟩
      simp only [e1, e2, List.flatten_cons, List.getElem_cons_zero]
      rw [List.getElem_append_left (by omega)]
    · have hj' : j - c < r.flatten.length := by simp only [List.flatten_cons, List.length_append] at hj; omega
      obtain ⟨h1, h2, h3⟩ := flatten_get r hr (j - c) hj'
      have e1 : j / c = (j - c) / c + 1 := by rw [Nat.div_eq_sub_div hc (by omega)]
      have e2 : j % c = (j - c) % c := by rw [Nat.mod_eq_sub_mod (by omega)]
      refine ⟨by rw [e1]; simp; omega, by simp only [e1, e2, List.getElem_cons_succ]; exact h2, ?_⟩
      simp only [e1, e2, List.flatten_cons, List.getElem_cons_succ]
      rw [List.getElem_append_right (by omega), ← h3]
      congr 1
      omega

section
variable {H : Type} {enc : TypeId × Value → H} {E : Env} {W : World} {sp : Nat → Bool} {held : Bool}

/-- All that is there. -/
abbrev Old (W : World) (b : Nat) : Prop := b < W.heap.size

/-- What is read as of type t has this form; readings of so much fuel at most. -/
def OpensN (enc : TypeId × Value → H) (E : Env) (W : World) (sp : Nat → Bool) (held : Bool) (N : Nat) (t : TypeId) (Sh : List AV → Prop) : Prop :=
  ∀ fuel, fuel ≤ N → ∀ cs x, DataW.trod enc E.P W 0 sp held fuel t cs = some x → ∃ l, RepL E W (Old W) l cs ∧ Sh l
def Opens (enc : TypeId × Value → H) (E : Env) (W : World) (sp : Nat → Bool) (held : Bool) (t : TypeId) (Sh : List AV → Prop) : Prop := ∀ N, OpensN enc E W sp held N t Sh

variable {N : Nat} {t e : TypeId} {Sh : List AV → Prop}

theorem inK_of {k : IntKind} {n : Int} (h : (Lit.int k n).wf = true) : inK k n := by
  simp only [Lit.wf, Bool.and_eq_true, decide_eq_true_eq] at h
  exact h

theorem o_int {k : IntKind} (ht : E.P.underlying t = some (.int k)) : OpensN enc E W sp held N t fun l => ∃ n, l = [.i k n] ∧ inK k n := by
  intro fuel _ cs x h
  obtain ⟨n, rfl, _, hw⟩ := DataW.trod_int ht h
  refine ⟨[.i k n], RepL.nil.cons (.i k n), n, rfl, ?_⟩
  simp only [Lit.wf, Bool.and_eq_true, decide_eq_true_eq] at hw
  exact hw
theorem o_bool (ht : E.P.underlying t = some .bool) : OpensN enc E W sp held N t fun l => ∃ b, l = [.b b] := by
  intro fuel _ cs x h
  obtain ⟨b, rfl, _⟩ := DataW.trod_bool ht h
  exact ⟨[.b b], RepL.nil.cons (.b b), b, rfl⟩

theorem cells_get {a : Addr} {n : Nat} {l : List Value} (h : W.cells? 0 a n = some l) : l.length = n ∧ ∀ i (hi : i < l.length), W.cell? (a.add i) = some l[i] := by
  unfold World.cells? at h
  rw [if_pos (Nat.zero_le _)] at h
  have hl := mapM_some_length h
  simp only [List.length_range] at hl
  refine ⟨hl, fun i hi => ?_⟩
  have := mapM_some_get h i i (by simp [← hl, hi])
  rw [this]; simp [hi]

theorem spot_none {a : Addr} {v : Value} (h : W.cell? a = some v) : a.spot = none ∧ a.block < W.heap.size := by
  unfold World.cell? at h
  split at h <;> first | (cases h; done) | skip
  rename_i hh
  split at h <;> first | (cases h; done) | skip
  rename_i hs
  refine ⟨?_, (Array.getElem?_eq_some_iff.1 hh).1⟩
  cases hsp : a.spot <;> simp_all

theorem o_slice (ht : E.P.underlying t = some (.slice e)) (hc : 0 < E.P.cellsOf e) (he : ∀ M, M < N → OpensN enc E W sp held M e Sh) :
    OpensN enc E W sp held N t fun l => l = [.z] ∨ ∃ xs : List (List AV), (∀ x ∈ xs, Sh x) ∧ l = [.sl xs.flatten xs.length] := by
  intro fuel hfuel cs x h
  rcases DataW.trod_slice ht h with ⟨rfl, _⟩ | ⟨a, len, cap, elems, rest, n, rfl, rfl, _, _, hlc, _, hel, hget, _, _⟩
  · exact ⟨[.z], RepL.nil.cons (.z none), .inl rfl⟩
  · have each : ∀ i, i < len → ∃ ci li, W.cells? 0 (a.add (i * E.P.cellsOf e)) (E.P.cellsOf e) = some ci ∧ RepL E W (Old W) li ci ∧ Sh li := by
      intro i hi
      have hg := hget i hi
      rw [List.getElem?_eq_getElem (by omega)] at hg
      simp only [Option.bind_eq_some_iff] at hg
      obtain ⟨ci, h1, h2⟩ := hg
      obtain ⟨li, h3, h4⟩ := he n (by omega) n (Nat.le_refl _) ci _ h2
      exact ⟨ci, li, h1, h3, h4⟩
    have build : ∀ m, m ≤ len → ∃ xs : List (List AV), xs.length = m ∧ (∀ x ∈ xs, Sh x) ∧ (∀ i (hi : i < xs.length), ∃ ci, W.cells? 0 (a.add (i * E.P.cellsOf e)) (E.P.cellsOf e) = some ci ∧ RepL E W (Old W) xs[i] ci) := by
      intro m
      induction m with
      | zero => intro _; exact ⟨[], rfl, by simp, fun i hi => by simp at hi⟩
      | succ m ih =>
        intro hm
        obtain ⟨xs, h1, h2, h3⟩ := ih (by omega)
        obtain ⟨ci, li, g1, g2, g3⟩ := each m (by omega)
        refine ⟨xs ++ [li], by simp [h1], fun x hx => ?_, fun i hi => ?_⟩
        · rcases List.mem_append.1 hx with hx | hx
          · exact h2 x hx
          · simp only [List.mem_singleton] at hx; subst hx; exact g3
        · by_cases hlt : i < xs.length
          · obtain ⟨ci', p, q⟩ := h3 i hlt
            exact ⟨ci', p, by rw [List.getElem_append_left hlt]; exact q⟩
          · have : i = m := by simp at hi; omega
            subst this
            refine ⟨ci, g1, ?_⟩
            rw [List.getElem_append_right (by omega)]
            simpa [h1] using g2
    obtain ⟨xs, h1, h2, h3⟩ := build len (Nat.le_refl _)
    refine ⟨[.sl xs.flatten xs.length], RepL.nil.cons ?_, .inr ⟨xs, h2, rfl⟩⟩
    have hlen : ∀ l ∈ xs, l.length = E.P.cellsOf e := by
      intro l hl
      obtain ⟨i, hi, rfl⟩ := List.mem_iff_getElem.1 hl
      obtain ⟨ci, p, q⟩ := h3 i hi
      rw [q.1]; exact (cells_get p).1
    have key : ∀ j (hj : j < xs.flatten.length), ∃ v, W.cell? (a.add j) = some v ∧ FRep E W (Old W) xs.flatten[j] v := by
      intro j hj
      obtain ⟨q1, q2, q3⟩ := flatten_get xs hlen j hj
      obtain ⟨ci, p, q⟩ := h3 _ q1
      obtain ⟨c1, c2⟩ := cells_get p
      have hlt : j % E.P.cellsOf e < ci.length := by rw [← q.1]; exact q2
      refine ⟨ci[j % E.P.cellsOf e], ?_, ?_⟩
      · have := c2 _ hlt
        rw [← this]
        have e1 : j / E.P.cellsOf e * E.P.cellsOf e + j % E.P.cellsOf e = j := by
          have := Nat.div_add_mod j (E.P.cellsOf e)
          rw [Nat.mul_comm]; exact this
        rw [Addr.add_add, e1]
      · rw [q3]; exact q.2 _ q2 hlt
    rw [h1]
    refine .sl _ len (some a) cap (fun j => (W.cell? (a.add j)).getD undef) hlc ?_ (fun j hj => ?_)
    · by_cases h0 : xs.flatten = []
      · exact .inl h0
      · right
        have hpos : 0 < xs.flatten.length := by
          cases hx : xs.flatten with
          | nil => exact absurd hx h0
          | cons => simp
        obtain ⟨v, hv, _⟩ := key 0 hpos
        obtain ⟨s1, s2⟩ := spot_none hv
        have e0 : a.add 0 = a := by
          obtain ⟨ab, ao, as⟩ := a
          cases as <;> simp [Addr.add]
        rw [e0] at s1 s2
        have hsp : a.spot = none := s1
        have hbl : a.block < W.heap.size := s2
        refine ⟨a.block, a.off, ?_, hbl, fun j hj => ?_⟩
        · obtain ⟨ab, ao, as⟩ := a
          simp only at hsp
          subst hsp; rfl
        · obtain ⟨v, hv, _⟩ := key j hj
          have : (⟨a.block, a.off + j, none⟩ : Addr) = a.add j := by
            obtain ⟨ab, ao, as⟩ := a
            simp only at hsp
            subst hsp
            rw [Addr.add_lit]
          rw [this, hv]; rfl
    · obtain ⟨v, hv, hf⟩ := key j hj
      rw [hv]; exact hf

theorem RepL.flat {ls : List (List AV)} {cs : List Value} {c : Nat} (h : ∀ i (hi : i < ls.length), RepL E W (Old W) ls[i] ((cs.drop (i * c)).take c)) (hl : cs.length = ls.length * c) : RepL E W (Old W) ls.flatten cs := by
  have hlen : ∀ l ∈ ls, l.length = c := by
    intro l hl'
    obtain ⟨i, hi, rfl⟩ := List.mem_iff_getElem.1 hl'
    rw [(h i hi).1]
    simp only [List.length_take, List.length_drop]
    have : i * c + c ≤ ls.length * c := by
      have := Nat.mul_le_mul_right c (show i + 1 ≤ ls.length by omega)
      rw [Nat.add_mul, Nat.one_mul] at this; exact this
    omega
  have hfl : ls.flatten.length = ls.length * c := by
    rw [List.length_flatten]
    have : ls.map List.length = List.replicate ls.length c := by
      apply List.ext_getElem (by simp)
      intro i p q
      simp only [List.getElem_map, List.getElem_replicate]
      exact hlen _ (List.getElem_mem _)
    rw [this]; simp
  refine ⟨by omega, fun j h1 h2 => ?_⟩
  obtain ⟨q1, q2, q3⟩ := flatten_get ls hlen j h1
  have hr := h _ q1
  have hlt : j % c < ((cs.drop (j / c * c)).take c).length := by rw [← hr.1]; exact q2
  have := hr.2 _ q2 hlt
  rw [q3]
  have e : ((cs.drop (j / c * c)).take c)[j % c] = cs[j] := by
    simp only [List.getElem_take, List.getElem_drop]
    congr 1
    have := Nat.div_add_mod j c
    rw [Nat.mul_comm] at this; exact this
  rwa [e] at this

theorem o_array {n : Nat} (ht : E.P.underlying t = some (.array n e)) (hc : E.P.cellsOf t = n * E.P.cellsOf e) (he : ∀ M, M < N → OpensN enc E W sp held M e Sh) :
    OpensN enc E W sp held N t fun l => ∃ xs : List (List AV), xs.length = n ∧ (∀ x ∈ xs, Sh x) ∧ l = xs.flatten := by
  intro fuel hfuel cs x h
  cases fuel with
  | zero => simp [DataW.trod] at h
  | succ m =>
    unfold DataW.trod at h
    rw [ht] at h
    simp only [Option.ite_none_right_eq_some, Option.map_eq_some_iff] at h
    obtain ⟨hl, ys, hy, _⟩ := h
    have hyl := mapM_some_length hy
    simp only [List.length_range] at hyl
    have each : ∀ i, i < n → ∃ li, RepL E W (Old W) li ((cs.drop (i * E.P.cellsOf e)).take (E.P.cellsOf e)) ∧ Sh li := by
      intro i hi
      have := mapM_some_get hy i i (by simp [hi])
      rw [List.getElem?_eq_getElem (by omega)] at this
      exact he m (by omega) m (Nat.le_refl _) _ _ this
    have build : ∀ k, k ≤ n → ∃ xs : List (List AV), xs.length = k ∧ (∀ x ∈ xs, Sh x) ∧ ∀ i (hi : i < xs.length), RepL E W (Old W) xs[i] ((cs.drop (i * E.P.cellsOf e)).take (E.P.cellsOf e)) := by
      intro k
      induction k with
      | zero => intro _; exact ⟨[], rfl, by simp, fun i hi => by simp at hi⟩
      | succ k ih =>
        intro hk
        obtain ⟨xs, h1, h2, h3⟩ := ih (by omega)
        obtain ⟨li, g2, g3⟩ := each k (by omega)
        refine ⟨xs ++ [li], by simp [h1], fun x hx => ?_, fun i hi => ?_⟩
        · rcases List.mem_append.1 hx with hx | hx
          · exact h2 x hx
          · simp only [List.mem_singleton] at hx; subst hx; exact g3
        · by_cases hlt : i < xs.length
          · rw [List.getElem_append_left hlt]; exact h3 i hlt
          · have : i = k := by simp at hi; omega
            subst this
            rw [List.getElem_append_right (by omega)]
            simpa [h1] using g2
    obtain ⟨xs, h1, h2, h3⟩ := build n (Nat.le_refl _)
    exact ⟨xs.flatten, RepL.flat h3 (by rw [hl, hc, h1]), xs, h1, h2, rfl⟩

/-- Fields one behind the other, of these forms. -/
inductive Fields (enc : TypeId × Value → H) (E : Env) (W : World) (sp : Nat → Bool) (held : Bool) (N : Nat) : Nat → List Field → List (List AV → Prop) → Nat → Prop where
  | nil (off : Nat) : Fields enc E W sp held N off [] [] off
  | cons {off size : Nat} {f : Field} {fs : List Field} {Sh : List AV → Prop} {Shs : List (List AV → Prop)} (h0 : f.offset = off) (h : ∀ M, M < N → OpensN enc E W sp held M f.type Sh)
      (r : Fields enc E W sp held N (off + E.P.cellsOf f.type) fs Shs size) : Fields enc E W sp held N off (f :: fs) (Sh :: Shs) size

/-- Parts of these forms. -/
def Parts : List (List AV → Prop) → List AV → Prop
  | [], l => l = []
  | Sh :: r, l => ∃ a b, Sh a ∧ Parts r b ∧ l = a ++ b

theorem o_struct {fs : Array Field} {Shs : List (List AV → Prop)} {size : Nat} (ht : E.P.underlying t = some (.struct fs)) (hf : Fields enc E W sp held N 0 fs.toList Shs size) (hs : E.P.cellsOf t = size) :
    OpensN enc E W sp held N t (Parts Shs) := by
  intro fuel hfuel cs x h
  obtain ⟨xs, n, rfl, _, hl, hxl, hget⟩ := DataW.trod_struct ht h
  have hn : n < N := by omega
  have hle0 : size ≤ cs.length := by rw [hl, hs]; exact Nat.le_refl _
  have key : ∀ (off : Nat) (fl : List Field) (Shs : List (List AV → Prop)) (size : Nat), Fields enc E W sp held N off fl Shs size → size ≤ cs.length → (∀ (i : Nat) (f : Field), fl[i]? = some f → ∃ y, DataW.trod enc E.P W 0 sp held n f.type ((cs.drop f.offset).take (E.P.cellsOf f.type)) = some y) →
      ∃ l, RepL E W (Old W) l ((cs.drop off).take (size - off)) ∧ Parts Shs l ∧ off ≤ size := by

    intro off fl Shs size hF
    induction hF with
    | nil off => intro _ _; exact ⟨[], by simpa using RepL.nil, rfl, Nat.le_refl _⟩
    | cons h0 h r ih =>
      rename_i off size f fs' Sh Shs'
      intro hle hg
      obtain ⟨y, hy⟩ := hg 0 f rfl
      obtain ⟨a, ha, hSh⟩ := h n hn n (Nat.le_refl _) _ _ hy
      obtain ⟨b, hb, hP, ho⟩ := ih hle (fun i f' hf' => hg (i + 1) f' (by simpa using hf'))
      refine ⟨a ++ b, ?_, ⟨a, b, hSh, hP, rfl⟩, by omega⟩
      rw [h0] at ha
      have e : (cs.drop off).take (size - off) = (cs.drop off).take (E.P.cellsOf f.type) ++ (cs.drop (off + E.P.cellsOf f.type)).take (size - (off + E.P.cellsOf f.type)) := by
        rw [show size - off = E.P.cellsOf f.type + (size - (off + E.P.cellsOf f.type)) by omega, List.take_add, List.drop_drop]
      rw [e]
      exact ha.append hb
  obtain ⟨l, h1, h2, _⟩ := key 0 fs.toList Shs size hf hle0 (fun i f hi => by
    have hi' : fs[i]? = some f := by simpa using hi
    have := hget i f hi'
    have hlt : i < fs.size := (Array.getElem?_eq_some_iff.1 hi').1
    rw [List.getElem?_eq_getElem (by omega)] at this
    exact ⟨_, this⟩)
  refine ⟨l, ?_, h2⟩
  have e : (cs.drop 0).take (size - 0) = cs := by rw [List.drop_zero, Nat.sub_zero]; exact List.take_of_length_le (by omega)
  rwa [e] at h1

/-! ### An argument -/

theorem arg_one {v : Value} {d : DataW H} {ps : List MemPlace} (ho : ∀ N, OpensN enc E W sp held N t Sh) (h : DataW.Trod enc E.P W 0 sp held t v d ps) : ∃ l, RepL E W (Old W) l v.cells.toList ∧ Sh l := by
  obtain ⟨fuel, hf⟩ := h
  exact ho fuel fuel (Nat.le_refl _) _ _ hf

/-- One cell. -/
theorem vrep_one {np : Nat} {A K : Nat → Nat} {x : AV} {v : Value} (h : RepL E W (Old W) [x] v.cells.toList) (hv : v.cells = #[v]) : VRep E np W (Old W) A K x v := by
  rw [hv] at h
  exact .one (.flat (h.2 0 (by simp) (by simp)))
/-- Cells. -/
theorem vrep_cells {np : Nat} {A K : Nat → Nat} {l : List AV} {cs : Array Value} (h : RepL E W (Old W) l cs.toList) : VRep E np W (Old W) A K (.ag l) (.agg cs) := by
  have := V1.ag (np := np) (A := A) (K := K) l cs.toList h.1 h.2
  simpa using VRep.one this


theorem vrep_no_op {np : Nat} {A K : Nat → Nat} {cs : List AV} {v : Value} (h : VRep E np W (Old W) A K (.op cs) v) : False := by
  cases h with
  | one h => cases h with
    | flat h => cases h

theorem noOps_rep {np : Nat} {A K : Nat → Nat} : ∀ {args : List AV} {cargs : List Value}, cargs.length = args.length → (∀ j (h1 : j < args.length) (h2 : j < cargs.length), VRep E np W (Old W) A K args[j] cargs[j]) → noOps args = true
  | [], _, _, _ => rfl
  | x :: r, [], h, _ => by simp at h
  | x :: r, v :: vs, h, hv => by
    have h0 := hv 0 (by simp) (by simp)
    simp only [List.getElem_cons_zero] at h0
    have ih := noOps_rep (args := r) (cargs := vs) (by simpa using h) (fun j h1 h2 => hv (j + 1) (Nat.succ_lt_succ h1) (Nat.succ_lt_succ h2))
    cases x <;> first | exact ih | exact (vrep_no_op h0).elim

/-- An argument of cells. -/
theorem arg_cells {r : Reach} {b0 : Nat} {v : Value} {d : DataW H} {ps : List MemPlace} (ho : ∀ N, OpensN enc E W sp held N t Sh) (hag : (match E.P.underlying t with | some (.struct _) | some (.array _ _) => true | _ => false) = true)
    (hok : Value.okWide E.P W r b0 t v) (h : DataW.Trod enc E.P W 0 sp held t v d ps) : ∃ l, Sh l ∧ ∀ (np : Nat) (A K : Nat → Nat), VRep E np W (Old W) A K (.ag l) v := by
  obtain ⟨l, h1, h2⟩ := arg_one ho h
  unfold Value.okWide at hok
  split at hok
  · obtain ⟨cs, rfl, _⟩ := hok
    exact ⟨l, h2, fun np A K => vrep_cells h1⟩
  · obtain ⟨cs, rfl, _⟩ := hok
    exact ⟨l, h2, fun np A K => vrep_cells h1⟩
  · rename_i hn1 hn2
    split at hag
    · rename_i hh; exact absurd hh (hn1 _)
    · rename_i hh; exact absurd hh (hn2 _ _)
    · cases hag
/-- An argument of one cell. -/
theorem arg_cell {v : Value} {d : DataW H} {ps : List MemPlace} (ho : ∀ N, OpensN enc E W sp held N t Sh) (hv : v.cells = #[v]) (h : DataW.Trod enc E.P W 0 sp held t v d ps) :
    ∃ l, Sh l ∧ ∀ (np : Nat) (A K : Nat → Nat) x, l = [x] → VRep E np W (Old W) A K x v := by
  obtain ⟨l, h1, h2⟩ := arg_one ho h
  exact ⟨l, h2, fun np A K x hx => vrep_one (hx ▸ h1) hv⟩

/-! ### Forms -/

/-- A slice of numbers, or none. -/
def IsNums (k : IntKind) (x : AV) (L : List Int) : Prop := (x = slv k L ∨ (x = .z ∧ L = [])) ∧ ∀ n ∈ L, inK k n
theorem IsNums.isL {k : IntKind} {x : AV} {L : List Int} (h : IsNums k x L) : IsL k x L := h.1
theorem singles {k : IntKind} : ∀ (xs : List (List AV)), (∀ x ∈ xs, ∃ n, x = [.i k n] ∧ inK k n) → ∃ L : List Int, L.length = xs.length ∧ xs.flatten = nums k L ∧ ∀ n ∈ L, inK k n
  | [], _ => ⟨[], rfl, rfl, by simp⟩
  | x :: r, h => by
    obtain ⟨n, rfl, hn⟩ := h x (by simp)
    obtain ⟨L, h1, h2, h3⟩ := singles r (fun y hy => h y (by simp [hy]))
    exact ⟨n :: L, by simp [h1], by simp [h2, nums], fun m hm => by rcases List.mem_cons.1 hm with rfl | hm; exact hn; exact h3 m hm⟩
theorem isNums_of {k : IntKind} {l : List AV} (h : l = [.z] ∨ ∃ xs : List (List AV), (∀ x ∈ xs, ∃ n, x = [.i k n] ∧ inK k n) ∧ l = [.sl xs.flatten xs.length]) : ∃ x L, l = [x] ∧ IsNums k x L := by
  rcases h with rfl | ⟨xs, h1, rfl⟩
  · exact ⟨_, [], rfl, .inr ⟨rfl, rfl⟩, by simp⟩
  · obtain ⟨L, h2, h3, h4⟩ := singles xs h1
    exact ⟨_, L, rfl, .inl (by rw [h3, ← h2]), h4⟩
/-- A slice of such, or none. -/
def IsVecs (k : IntKind) (x : AV) (xs : List AV) (Ls : List (List Int)) : Prop := (x = .sl xs xs.length ∨ (x = .z ∧ xs = [])) ∧ xs.length = Ls.length ∧ ∀ j (h1 : j < xs.length) (h2 : j < Ls.length), IsNums k xs[j] Ls[j]
theorem isVecs_of {k : IntKind} {l : List AV} (h : l = [.z] ∨ ∃ xs : List (List AV), (∀ x ∈ xs, (x = [.z] ∨ ∃ ys : List (List AV), (∀ y ∈ ys, ∃ n, y = [.i k n] ∧ inK k n) ∧ x = [.sl ys.flatten ys.length])) ∧ l = [.sl xs.flatten xs.length]) :
    ∃ x xs Ls, l = [x] ∧ IsVecs k x xs Ls := by
  rcases h with rfl | ⟨xs, h1, rfl⟩
  · exact ⟨_, [], [], rfl, .inr ⟨rfl, rfl⟩, rfl, fun j h => by simp at h⟩
  · have key : ∀ ys : List (List AV), (∀ x ∈ ys, (x = [.z] ∨ ∃ zs : List (List AV), (∀ y ∈ zs, ∃ n, y = [.i k n] ∧ inK k n) ∧ x = [.sl zs.flatten zs.length])) → ∃ us : List AV, ∃ Ls : List (List Int), ys.flatten = us ∧ us.length = ys.length ∧ us.length = Ls.length ∧ ∀ j (h1 : j < us.length) (h2 : j < Ls.length), IsNums k us[j] Ls[j] := by
      intro ys
      induction ys with
      | nil => intro _; exact ⟨[], [], rfl, rfl, rfl, fun j h => by simp at h⟩
      | cons y r ih =>
        intro h
        obtain ⟨us, Ls, e1, e2, e3, e4⟩ := ih (fun z hz => h z (by simp [hz]))
        obtain ⟨x, L, rfl, hx⟩ := isNums_of (h y (by simp))
        refine ⟨x :: us, L :: Ls, by simp [e1], by simp [e2], by simp [e3], fun j p q => ?_⟩
        cases j with
        | zero => exact hx
        | succ j => exact e4 j (by simpa using p) (by simpa using q)
    obtain ⟨us, Ls, e1, e2, e3, e4⟩ := key xs h1
    exact ⟨_, us, Ls, rfl, .inl (by rw [e1, e2]), e3, e4⟩

end
end Zab
