/- What laid errors give, however many. No statement of the program stands here. -/
import Derived.Test.YtohilcdmockfbaaDoorZabData
import Derived.Stop.LaidErr
import Derived.LaidMore
namespace Zab
open Go Go.RowKit Go.ChangeShapes
set_option linter.unusedVariables false

/-- One laid error lies somewhere. -/
structure ErrAt (P : Program) (W : World) (tp : TypeId) (g : Nat) (text : List UInt8) (b : Nat × Nat) : Prop where
  var : W.cell? ⟨g, 0, none⟩ = some (.iface tp (.pointer (some ⟨b.1, b.2, none⟩)))
  obj : ∃ c e, W.heap[b.1]? = some (.cells c e (0, 0)) ∧ 0 < c.size
  str : ∃ s : ByteArray, W.cell? ⟨b.1, b.2, none⟩ = some (.string s) ∧ s.data.toList = text

/-- The types that stand behind a laid error. -/
structure ErrTypes (P : Program) (nm : String) (tp te ts : TypeId) (f : Field) : Prop where
  row : ∀ u, P.typeName? 3 u = some nm → u = tp
  ptr : P.underlying tp = some (.pointer te)
  str : P.underlying te = some (.struct #[f])
  fty : f.type = ts
  fof : f.offset = 0
  und : P.underlying ts = some .string
  c1 : P.cellsOf te = 1
  c2 : P.cellsOf ts = 1

theorem errAt {P : Program} {nm : String} {tp te ts : TypeId} {f : Field} (TT : ErrTypes P nm tp te ts f) {l : List (String × DataW Unit)} {W : World} (h : laidMet P l W)
    {n : String} {text : List UInt8} (hm : (n, DataW.iface nm (.ptr (.agg [.lit (.string text)]))) ∈ l) {g : Nat} (hg : P.globalNamed n = some g) (hi : ∃ ti ms, (P.globals[g]?).map (·.type) = some ti ∧ P.underlying ti = some (.interface ms)) :
    ∃ b, ErrAt P W tp g text b := by
  obtain ⟨ps, hv, _, hrows⟩ := h
  have key : ∀ (l : List (String × DataW Unit)) (ps : List MemPlace), DataW.LaidVars P W l ps → (n, DataW.iface nm (.ptr (.agg [.lit (.string text)]))) ∈ l →
      ∃ g t cs fuel p, P.globalNamed n = some g ∧ (P.globals[g]?).map (·.type) = some t ∧ W.var? P n = some cs ∧ DataW.trod (fun _ => ()) P W 0 (fun _ => true) false fuel t cs.toList = some (DataW.iface nm (.ptr (.agg [.lit (.string text)])), p) ∧ (∀ x ∈ MemPlace.row ⟨g, 0, none⟩ cs.size ++ p, x ∈ ps) := by
    intro l
    induction l with
    | nil => intro ps _ hm; cases hm
    | cons x r ih =>
      intro ps hv hm
      obtain ⟨n', d'⟩ := x
      obtain ⟨g, t, cs, fuel, p, q, h1, h2, h3, h4, h5, rfl⟩ := hv
      rcases List.mem_cons.1 hm with e | hm
      · cases e
        exact ⟨g, t, cs, fuel, p, h1, h2, h3, h4, fun x hx => List.mem_append_left _ hx⟩
      · obtain ⟨g, t, cs, fuel, p, k1, k2, k3, k4, k5⟩ := ih q h5 hm
        exact ⟨g, t, cs, fuel, p, k1, k2, k3, k4, fun x hx => List.mem_append_right _ (k5 x hx)⟩
  obtain ⟨g0, t0, cs0, f0, p0, hg0, ht0, hv0, hd0, hin⟩ := key l ps hv hm
  obtain rfl := Option.some.inj (hg.symm.trans hg0)
  obtain ⟨ti, ms, ht, hi⟩ := hi
  obtain rfl := Option.some.inj (ht.symm.trans ht0)
  obtain ⟨l0⟩ := cs0
  have ok0 : ∀ u v, l0 = [.iface u v] → Value.okWide P W .any 0 u v := fun u v e => by
    subst e
    exact (hrows g 0 (hin _ (by simp [MemPlace.row]))).2 u v (by simpa using World.var?_cell hg0 hv0 0)
  obtain ⟨a0, s0, rfl, hc0, hs0, hz0, rfl⟩ := errorString_of_trod hi TT.row TT.ptr TT.str TT.fty TT.fof TT.und TT.c1 TT.c2 hd0 ok0
  obtain ⟨c0, t0, hb0⟩ := (hrows a0.block a0.off (hin _ (by simp [MemPlace.row]))).1
  have hvar : W.cell? ⟨g, 0, none⟩ = some (.iface tp (.pointer (some a0))) := by simpa using World.var?_cell hg0 hv0 0
  have hcell := hc0
  unfold World.cell? at hcell
  rw [hb0] at hcell
  simp only at hcell
  split at hcell <;> first | (cases hcell; done) | skip
  rename_i hsp
  have hspot : a0.spot = none := by cases h : a0.spot <;> simp_all
  have hlt : a0.off < c0.size := (Array.getElem?_eq_some_iff.1 hcell).1
  obtain ⟨ab, ao, as⟩ := a0
  simp only at hspot
  subst hspot
  exact ⟨(ab, ao), hvar, ⟨c0, t0, hb0, by omega⟩, ⟨s0, hc0, hs0⟩⟩

/-- All errors that are laid, told by their variables and their texts. -/
theorem gokN {P : Program} {nm : String} {tp te ts : TypeId} {f : Field} (TT : ErrTypes P nm tp te ts f) {l : List (String × DataW Unit)} {W : World} (h : laidMet P l W) (T : List (String × Nat × List UInt8))
    (hl : ∀ x ∈ T, (x.1, DataW.iface nm (.ptr (.agg [.lit (.string x.2.2)]))) ∈ l) (hg : ∀ x ∈ T, P.globalNamed x.1 = some x.2.1 ∧ ∃ ti ms, (P.globals[x.2.1]?).map (·.type) = some ti ∧ P.underlying ti = some (.interface ms))
    (hd : ∀ x ∈ T, ∀ y ∈ T, x.2.2 = y.2.2 → x.2.1 = y.2.1) :
    ∃ sent : Nat → Option (Nat × Nat), GOk ⟨P, sent, tp⟩ W ∧ ∀ x ∈ T, (sent x.2.1).isSome = true := by
  have all : ∀ x ∈ T, ∃ b, ErrAt P W tp x.2.1 x.2.2 b := fun x hx => errAt TT h (hl x hx) (hg x hx).1 (hg x hx).2
  have pick : ∀ g, (∃ x ∈ T, x.2.1 = g) → ∃ b, ∃ x ∈ T, x.2.1 = g ∧ ErrAt P W tp g x.2.2 b := fun g ⟨x, hx, e⟩ => by
    obtain ⟨b, hb⟩ := all x hx
    exact ⟨b, x, hx, e, e ▸ hb⟩
  classical
  let sent : Nat → Option (Nat × Nat) := fun g => if hx : ∃ x ∈ T, x.2.1 = g then some (pick g hx).choose else none
  have told : ∀ g b, sent g = some b → ∃ x ∈ T, x.2.1 = g ∧ ErrAt P W tp g x.2.2 b := by
    intro g b hb
    simp only [sent] at hb
    split at hb
    · rename_i hx
      simp only [Option.some.injEq] at hb
      have := (pick g hx).choose_spec
      rw [hb] at this
      exact this
    · cases hb
  refine ⟨sent, ⟨fun g b hb => ?_, fun g b hb => ?_, fun g h' b hb hb' => ?_⟩, fun x hx => ?_⟩
  · obtain ⟨x, hx, e, hE⟩ := told g b hb
    exact hE.var
  · obtain ⟨x, hx, e, hE⟩ := told g b hb
    exact hE.obj
  · obtain ⟨x, hx, e, hE⟩ := told g b hb
    obtain ⟨y, hy, e', hE'⟩ := told h' b hb'
    obtain ⟨s, hs, hs2⟩ := hE.str
    obtain ⟨s', hs', hs2'⟩ := hE'.str
    rw [hs] at hs'
    cases hs'
    have := hd x hx y hy (hs2.symm.trans hs2')
    rw [← e, ← e', this]
  · simp only [sent]
    rw [dif_pos ⟨x, hx, rfl⟩]
    rfl

/-- The laid errors' type. -/
theorem envOkN {P : Program} {T el : Nat} {sent : Nat → Option (Nat × Nat)} {sents : List Nat} (hp : P.underlying T = some (.pointer el)) (h1 : (P.info? el).map (fun i => decide (i.size ≠ 0)) = some true) (h2 : (P.info? T).map (·.comparable) = some true) (hm : P.follows .mixedOrders = true)
    (hs : ∀ g, memb sents g = true → (sent g).isSome = true) : EnvOk ⟨P, sent, T⟩ sents where
  sent := hs
  ptr := fun _ => by
    cases hi : P.info? el with
    | none => rw [hi] at h1; cases h1
    | some i => rw [hi] at h1; simp only [Option.map_some, Option.some.injEq, decide_eq_true_eq] at h1; exact ⟨el, i, hp, hi, h1⟩
  cmp := fun _ => by
    cases hi : P.info? T with
    | none => rw [hi] at h2; cases h2
    | some i => rw [hi] at h2; simp only [Option.map_some, Option.some.injEq] at h2; exact ⟨i, rfl, h2⟩
  mixed := hm

end Zab
