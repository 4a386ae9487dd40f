/- What a laid error gives. No statement of the program stands here. -/
import Derived.Test.YthfbehemcpghaaaDoorZabSim
import Derived.Stop.LaidErr
namespace Zab
open Go Go.RowKit Go.ChangeShapes
set_option linter.unusedVariables false

/-- One error alone. -/
def env1 (P : Program) (T g : Nat) (b : Nat × Nat) : Env := ⟨P, fun h => if h = g then some b else none, T⟩

theorem gok1 {P : Program} {n nm : String} {text : List UInt8} {r : List (String × DataW Unit)} {W : World} {g : Nat} {ti tp te ts : TypeId} {ms : Array (String × TypeId)} {f : Field}
    (h : laidMet P ((n, .iface nm (.ptr (.agg [.lit (.string text)]))) :: r) W)
    (hg : P.globalNamed n = some g) (ht : (P.globals[g]?).map (·.type) = some ti) (hi : P.underlying ti = some (.interface ms)) (hrow : ∀ u, P.typeName? 3 u = some nm → u = tp)
    (hp : P.underlying tp = some (.pointer te)) (he : P.underlying te = some (.struct #[f])) (hft : f.type = ts) (hfo : f.offset = 0) (hs : P.underlying ts = some .string) (hc : P.cellsOf te = 1) (hcs : P.cellsOf ts = 1) :
    ∃ b, GOk (env1 P tp g b) W := by
  obtain ⟨ps, ⟨g0, t0, cs0, f0, p0, q0, hg0, ht0, hv0, hd0, _, e0⟩, _, hrows⟩ := h
  obtain rfl := Option.some.inj (hg.symm.trans hg0)
  obtain rfl := Option.some.inj (ht.symm.trans ht0)
  subst e0
  obtain ⟨l0⟩ := cs0
  have ok0 : ∀ u v, l0 = [.iface u v] → Value.okWide P W .any 0 u v := fun u v e => by
    subst e
    exact (hrows g 0 (by simp [MemPlace.row])).2 u v (by simpa using World.var?_cell hg0 hv0 0)
  obtain ⟨a0, s0, rfl, hc0, hs0, hz0, rfl⟩ := errorString_of_trod hi hrow hp he hft hfo hs hc hcs hd0 ok0
  obtain ⟨c0, t0, hb0⟩ := (hrows a0.block a0.off (by simp [MemPlace.row])).1
  have hvar : W.cell? ⟨g, 0, none⟩ = some (.iface tp (.pointer (some a0))) := by simpa using World.var?_cell hg0 hv0 0
  have hcell := hc0
  unfold World.cell? at hcell
  rw [hb0] at hcell
  simp only at hcell
  split at hcell <;> first | (cases hcell; done) | skip
  rename_i hsp
  have hspot : a0.spot = none := by cases h : a0.spot <;> simp_all
  have hlt : a0.off < c0.size := (Array.getElem?_eq_some_iff.1 hcell).1
  refine ⟨(a0.block, a0.off), ?_, ?_, ?_⟩
  · intro g' b hb
    simp only [env1] at hb
    split at hb <;> cases hb
    rename_i e; subst e
    rw [hvar]
    obtain ⟨ab, ao, as⟩ := a0
    simp only at hspot
    subst hspot
    rfl
  · intro g' b hb
    simp only [env1] at hb
    split at hb <;> cases hb
    exact ⟨c0, t0, hb0, by omega⟩
  · intro g' h' b hb hb'
    simp only [env1] at hb hb'
    by_cases e1 : g' = g
    · by_cases e2 : h' = g
      · exact e1.trans e2.symm
      · rw [if_neg e2] at hb'; cases hb'
    · rw [if_neg e1] at hb; cases hb

/-- The laid error's type. -/
theorem envOk1 {P : Program} {T g el : Nat} {b : Nat × Nat} (hp : P.underlying T = some (.pointer el)) (h1 : (P.info? el).map (fun i => decide (i.size ≠ 0)) = some true) (h2 : (P.info? T).map (·.comparable) = some true) (hm : P.follows .mixedOrders = true) :
    EnvOk (env1 P T g b) [g] where
  sent := fun h hh => by
    have : g = h := by
      simp only [memb, Bool.or_false] at hh
      exact Nat.eq_of_beq_eq_true hh
    simp [env1, this]
  ptr := fun _ => by
    cases hi : P.info? el with
    | none => rw [hi] at h1; cases h1
    | some i => rw [hi] at h1; simp only [Option.map_some, Option.some.injEq, decide_eq_true_eq] at h1; exact ⟨el, i, hp, hi, h1⟩
  cmp := fun _ => by
    cases hi : P.info? T with
    | none => rw [hi] at h2; cases h2
    | some i => rw [hi] at h2; simp only [Option.map_some, Option.some.injEq] at h2; exact ⟨i, hi, h2⟩
  mixed := hm

end Zab
