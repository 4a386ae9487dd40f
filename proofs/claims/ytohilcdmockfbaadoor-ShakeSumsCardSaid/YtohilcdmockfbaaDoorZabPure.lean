/- The abstract machine's pure operations stand for the model's. No statement of the program stands here. -/
import Derived.Test.YtohilcdmockfbaaDoorZabBin
namespace Zab
open Go
set_option linter.unusedSimpArgs false
set_option linter.unusedVariables false

/-! ### Lists of cells -/

def RepL (E : Env) (w : World) (N : Nat → Prop) (xs : List AV) (vs : List Value) : Prop := xs.length = vs.length ∧ ∀ j (h1 : j < xs.length) (h2 : j < vs.length), FRep E w N xs[j] vs[j]

section
variable {E : Env} {w : World} {N : Nat → Prop}

theorem RepL.nil : RepL E w N [] [] := ⟨rfl, fun j h => by simp at h⟩
theorem RepL.cons {x : AV} {v : Value} {xs : List AV} {vs : List Value} (h : FRep E w N x v) (hs : RepL E w N xs vs) : RepL E w N (x :: xs) (v :: vs) := by
  refine ⟨by simp [hs.1], fun j h1 h2 => ?_⟩
  cases j with
  | zero => exact h
  | succ j => exact hs.2 j (by simpa using h1) (by simpa using h2)
theorem RepL.append {xs ys : List AV} {vs us : List Value} (h : RepL E w N xs vs) (k : RepL E w N ys us) : RepL E w N (xs ++ ys) (vs ++ us) := by
  refine ⟨by simp [h.1, k.1], fun j h1 h2 => ?_⟩
  by_cases hj : j < xs.length
  · rw [List.getElem_append_left hj, List.getElem_append_left (by rw [← h.1]; exact hj)]; exact h.2 j _ _
  · rw [List.getElem_append_right (by omega), List.getElem_append_right (by rw [← h.1]; omega)]
    simp only [← h.1]; exact k.2 _ _ _
theorem RepL.take {xs : List AV} {vs : List Value} (h : RepL E w N xs vs) (n : Nat) : RepL E w N (xs.take n) (vs.take n) := by
  refine ⟨by simp [h.1], fun j h1 h2 => ?_⟩
  simp only [List.getElem_take]; exact h.2 j _ _
theorem RepL.drop {xs : List AV} {vs : List Value} (h : RepL E w N xs vs) (n : Nat) : RepL E w N (xs.drop n) (vs.drop n) := by
  refine ⟨by simp [h.1], fun j h1 h2 => ?_⟩
  simp only [List.getElem_drop]; exact h.2 _ _ _
theorem RepL.set {xs : List AV} {vs : List Value} (h : RepL E w N xs vs) (o : Nat) {x : AV} {v : Value} (hx : FRep E w N x v) : RepL E w N (xs.set o x) (vs.set o v) := by
  refine ⟨by simp [h.1], fun j h1 h2 => ?_⟩
  simp only [List.getElem_set]
  split
  · exact hx
  · exact h.2 j _ _
theorem RepL.over {xs ys : List AV} {vs us : List Value} (h : RepL E w N xs vs) (o : Nat) (k : RepL E w N ys us) : RepL E w N (over xs o ys) (vs.take o ++ (us ++ vs.drop (o + us.length))) := by
  unfold Zab.over
  rw [k.1]
  exact (h.take o).append (k.append (h.drop _))
theorem RepL.consts {l : List Value} (h : l.all flatConst = true) : RepL E w N (l.map constAV) l := ⟨by simp, fun j h1 h2 => FRep.list_map h j h1 h2⟩
theorem RepL.mono {w' : World} {N' : Nat → Prop} (hN : ∀ b, N b → N' b) (hw : ∀ b, N b → w'.heap[b]? = w.heap[b]?) {xs : List AV} {vs : List Value} (h : RepL E w N xs vs) : RepL E w' N' xs vs :=
  ⟨h.1, fun j h1 h2 => (h.2 j h1 h2).mono hN hw⟩
theorem RepL.one {xs : List AV} {vs : List Value} (h : RepL E w N xs vs) : ∀ v ∈ vs, v.oneCell' = true := fun v hv => by
  obtain ⟨j, hj, rfl⟩ := List.getElem_of_mem hv
  exact (h.2 j (by rw [h.1]; exact hj) hj).one
theorem RepL.flatten_rep {zs : List AV} {us : List Value} (h : RepL E w N zs us) : ∀ n, RepL E w N (zrep zs n) (List.replicate n us).flatten
  | 0 => by simpa [zrep] using RepL.nil
  | n + 1 => by
    have := h.append (RepL.flatten_rep h n)
    simpa [zrep, List.replicate_succ] using this

theorem RepL.get {xs : List AV} {vs : List Value} (h : RepL E w N xs vs) {j : Nat} {x : AV} (hx : xs[j]? = some x) : ∃ v, vs[j]? = some v ∧ FRep E w N x v := by
  obtain ⟨hj, rfl⟩ := List.getElem?_eq_some_iff.1 hx
  exact ⟨vs[j]'(by rw [← h.1]; exact hj), List.getElem?_eq_getElem (by rw [← h.1]; exact hj), h.2 j _ _⟩

variable {np : Nat} {A K : Nat → Nat}

theorem vrep_agL {cs : List AV} {v : Value} (h : VRep E np w N A K (.ag cs) v) : ∃ l : List Value, v = .agg l.toArray ∧ RepL E w N cs l := by
  obtain ⟨l, h1, h2, h3⟩ := vrep_ag h; exact ⟨l, h1, h2, h3⟩
theorem VRep.agL {cs : List AV} {l : List Value} (h : RepL E w N cs l) : VRep E np w N A K (.ag cs) (.agg l.toArray) := .one (.ag cs l h.1 h.2)

/-- What a value's cells are, in the model. -/
theorem cells_sound {x : AV} {v : Value} {sz : Nat} {cs : List AV} (h : VRep E np w N A K x v) (hc : cellsOf sz x = some cs) : RepL E w N cs v.cells.toList ∧ cs.length = sz := by
  unfold cellsOf at hc
  split at hc
  · rename_i l
    cases hb : Nat.beq l.length sz
    · simp [hb] at hc
    · simp only [hb, cond_true, Option.some.injEq] at hc
      subst hc
      obtain ⟨us, rfl, hr⟩ := vrep_agL h
      exact ⟨by simpa [Value.cells] using hr, Nat.eq_of_beq_eq_true hb⟩
  · cases hb : (Nat.beq sz 1 && x.flat)
    · simp [hb] at hc
    · simp only [hb, cond_true, Option.some.injEq] at hc
      subst hc
      simp only [Bool.and_eq_true] at hb
      have hf := vrep_flat h hb.2
      have hv : v.cells = #[v] := by
        cases hf <;> rfl
      rw [hv]
      have := Nat.eq_of_beq_eq_true hb.1
      exact ⟨RepL.cons hf RepL.nil, by simp [this]⟩

theorem agg_of {P : Program} {t : TypeId} {m : Option Nat} (hm : aggOfT P t = some m) :
    (m = none ∧ ∀ w : World, (isAgg t).run P w = .ok false w) ∨ (∃ n i, m = some n ∧ P.info? t = some i ∧ i.size = n ∧ (∃ d, P.underlying t = some d ∧ d.isRow = true) ∧ ∀ w : World, (isAgg t).run P w = .ok true w) := by
  unfold aggOfT at hm
  cases hu : P.underlying t with
  | none => simp [hu] at hm
  | some d =>
    have hag : ∀ w : World, (isAgg t).run P w = .ok d.isRow w := by
      intro w
      unfold isAgg
      rw [Sem.run_bind, run_underlying hu]
      cases d <;> rfl
    simp only [hu] at hm
    cases d
    case struct fs =>
      right
      simp only [sizeOfT, Option.map_map] at hm
      cases hi : P.info? t with
      | none => simp [hi] at hm
      | some i =>
        simp only [hi, Option.map_some, Option.some.injEq, Function.comp] at hm
        exact ⟨_, i, hm.symm, rfl, rfl, ⟨_, rfl, rfl⟩, hag⟩
    case array n e =>
      right
      simp only [sizeOfT, Option.map_map] at hm
      cases hi : P.info? t with
      | none => simp [hi] at hm
      | some i =>
        simp only [hi, Option.map_some, Option.some.injEq, Function.comp] at hm
        exact ⟨_, i, hm.symm, rfl, rfl, ⟨_, rfl, rfl⟩, hag⟩
    all_goals (simp only [Option.some.injEq] at hm; exact .inl ⟨hm.symm, hag⟩)

/-- A part of cells, in the model. -/
theorem part_sound {P : Program} {t : TypeId} {m : Option Nat} (hm : aggOfT P t = some m) {cs : List AV} {l : List Value} (h : RepL E w N cs l) {o : Nat} {r : AV} (hp : partV cs o m = some r) :
    ∃ v, (part t l.toArray o).run P w = .ok v w ∧ VRep E np w N A K r v := by
  rcases agg_of hm with ⟨rfl, hag⟩ | ⟨n, i, rfl, hi, hs, _, hag⟩
  · simp only [partV] at hp
    obtain ⟨v, hv, hf⟩ := h.get hp
    exact ⟨v, by simp [part, hag, hv], .one (.flat hf)⟩
  · simp only [partV] at hp
    cases hb : Nat.ble (o + n) cs.length
    · simp [hb] at hp
    · simp only [hb, cond_true, Option.some.injEq] at hp
      subst hp
      have hle := Nat.le_of_ble_eq_true hb
      have hle' : o + n ≤ l.length := by rw [← h.1]; exact hle
      exact ⟨.agg ((l.drop o).take n).toArray, by simp [part, hag, Go.sizeOf, typeInfo, hi, hs, List.extract_eq_take_drop], VRep.agL ((h.drop o).take n)⟩

/-- Parts put into cells. -/
theorem fill_sound {place : Nat → Option (Nat × Nat)} {ρ : Operand → AV} {ev : Operand → Value} (hρ : ∀ x, VRep E np w N A K (ρ x) (ev x)) :
    ∀ (parts : List (Nat × Operand)) (aparts : List (Nat × Nat × Operand)), (aparts.length = parts.length ∧ ∀ j (h1 : j < aparts.length) (h2 : j < parts.length), place (parts[j]).1 = some ((aparts[j]).1, (aparts[j]).2.1) ∧ (aparts[j]).2.2 = (parts[j]).2) →
    ∀ {cs r : List AV} {l : List Value}, RepL E w N cs l → fillV ρ aparts cs = some r → ∃ l' : List Value, Instr.fill place l.toArray (parts.map fun p => (p.1, ev p.2)) = some l'.toArray ∧ RepL E w N r l'
  | [], [], _, cs, r, l, h, hf => by
    simp only [fillV, Option.some.injEq] at hf
    subst hf
    exact ⟨l, rfl, h⟩
  | [], _ :: _, hp, _, _, _, _, _ => by simp at hp
  | _ :: _, [], hp, _, _, _, _, _ => by simp at hp
  | (i, x) :: ps, (off, sz, y) :: aps, hp, cs, r, l, h, hf => by
    obtain ⟨hpl, hpa⟩ := hp
    obtain ⟨hpl0, he⟩ := hpa 0 (by simp) (by simp)
    have he : y = x := he
    subst he
    simp only [List.getElem_cons_zero] at hpl0 hf
    simp only [fillV] at hf
    cases hc : cellsOf sz (ρ y) with
    | none => simp [hc] at hf
    | some vs =>
      simp only [hc] at hf
      obtain ⟨hr, hlen⟩ := cells_sound (hρ y) hc
      cases hb : Nat.ble (off + sz) cs.length
      · simp [hb] at hf
      · simp only [hb, cond_true] at hf
        have hle := Nat.le_of_ble_eq_true hb
        have hsz : (ev y).cells.size = sz := by rw [← hlen, hr.1]; simp
        have hrest : ∀ j (h1 : j < aps.length) (h2 : j < ps.length), place (ps[j]).1 = some ((aps[j]).1, (aps[j]).2.1) ∧ (aps[j]).2.2 = (ps[j]).2 := fun j h1 h2 => by
          have := hpa (j + 1) (by simpa using h1) (by simpa using h2)
          simpa using this
        have key : ∀ (us : List Value) (k : Nat) (c : List Value), off + k + us.length ≤ c.length →
            (us.zipIdx k).foldl (fun (cs : Array Value) (p : Value × Nat) => cs.setIfInBounds (off + p.2) p.1) c.toArray = (c.take (off + k) ++ (us ++ c.drop (off + k + us.length))).toArray := by
          intro us
          induction us with
          | nil => intro k c _; simp
          | cons u us ih =>
            intro k c hc
            simp only [List.length_cons] at hc
            simp only [List.zipIdx_cons, List.foldl_cons]
            have : c.toArray.setIfInBounds (off + k) u = (c.set (off + k) u).toArray := by simp
            rw [this, ih (k + 1) _ (by simp; omega)]
            congr 1
            rw [List.set_eq_take_append_cons_drop, if_pos (by omega)]
            apply List.ext_getElem?
            intro n
            simp only [List.getElem?_append, List.length_take, List.length_append, List.length_cons, List.getElem?_take, List.getElem?_drop, List.getElem?_cons, List.length_drop]
            repeat' split
            all_goals first | omega | rfl | skip
            all_goals (congr 1; omega)
        have hstep : Instr.fill place l.toArray (((i, y) :: ps).map fun p => (p.1, ev p.2)) =
            Instr.fill place (l.take off ++ ((ev y).cells.toList ++ l.drop (off + (ev y).cells.toList.length))).toArray (ps.map fun p => (p.1, ev p.2)) := by
          simp only [List.map_cons, Instr.fill, hpl0]
          rw [if_neg (by
            simp only [Bool.or_eq_true, decide_eq_true_eq, not_or]
            refine ⟨by simp [hsz], ?_⟩
            have := h.1
            simp; omega)]
          congr 1
          have := key (ev y).cells.toList 0 l (by have := h.1; simp; omega)
          simp only [Nat.add_zero] at this
          rw [← this]
          rw [← Array.foldl_toList]
          simp
        rw [hstep]
        have hover : fillV ρ aps (over cs off vs) = some r := by
          revert hf
          match vs, hlen with
          | [], _ => exact id
          | [v], hl =>
            intro hf
            have : over cs off [v] = cs.set off v := by
              unfold over
              simp only [List.length_cons, List.length_nil] at hl
              rw [List.set_eq_take_append_cons_drop, if_pos (by omega)]
              simp
            rw [this]; exact hf
          | _ :: _ :: _, _ => exact id
        exact fill_sound hρ ps aps ⟨by simpa using hpl, hrest⟩ (h.over off hr) hover

end
end Zab
