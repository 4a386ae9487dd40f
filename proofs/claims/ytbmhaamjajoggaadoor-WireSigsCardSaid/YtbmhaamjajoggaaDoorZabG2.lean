/- '==' and its kin. No statement of the program stands here. -/
import Derived.Test.YtbmhaamjajoggaaDoorZabG1
import Derived.LaidEqlPtr
namespace Zab
open Go
set_option linter.unusedSimpArgs false
set_option linter.unusedVariables false

section
variable {E : Env} {np : Nat} {w : World} {N : Nat → Prop} {A K : Nat → Nat}

theorem ek_of {P : Program} {op : BinOp} {t : TypeId} {x y : Operand} {k : EqKind} (h : ekOf P op t x y = k) (hk : k ≠ .no) : op = .eql ∨ op = .neq := by
  unfold ekOf at h
  cases op <;> first | (exact .inl rfl) | (exact .inr rfl) | (exact absurd h.symm hk)

theorem ek_bool {P : Program} {op : BinOp} {t : TypeId} {x y : Operand} (h : ekOf P op t x y = .bool) : P.underlying t = some .bool := by
  have ho := ek_of h (by decide)
  rcases ho with rfl | rfl <;> (unfold ekOf at h; simp only at h; split at h <;> first | assumption | (split at h <;> cases h) | cases h)
theorem ek_str {P : Program} {op : BinOp} {t : TypeId} {x y : Operand} (h : ekOf P op t x y = .str) : P.underlying t = some .string := by
  have ho := ek_of h (by decide)
  rcases ho with rfl | rfl <;> (unfold ekOf at h; simp only at h; split at h <;> first | assumption | (split at h <;> cases h) | cases h)
theorem ek_iface {P : Program} {op : BinOp} {t : TypeId} {x y : Operand} (h : ekOf P op t x y = .iface ∨ ekOf P op t x y = .ifaceC) : ∃ ms, P.underlying t = some (.interface ms) := by
  have ho : op = .eql ∨ op = .neq := by rcases h with h | h <;> exact ek_of h (by decide)
  rcases h with h | h <;> rcases ho with rfl | rfl <;> (unfold ekOf at h; simp only at h; split at h <;> first | exact ⟨_, by assumption⟩ | (split at h <;> cases h) | cases h)
theorem ek_ifaceC {P : Program} {op : BinOp} {t : TypeId} {x y : Operand} (h : ekOf P op t x y = .ifaceC) : isConstO x = true ∨ isConstO y = true := by
  have ho := ek_of h (by decide)
  rcases ho with rfl | rfl <;> (unfold ekOf at h; simp only at h; split at h <;> first | (cases h; done) | skip)
  all_goals (split at h <;> first | (rename_i hc; simpa using hc) | (cases h; done))
theorem ek_ptr {P : Program} {op : BinOp} {t : TypeId} {x y : Operand} (h : ekOf P op t x y = .ptr) : ∃ e, P.underlying t = some (.pointer e) := by
  have ho := ek_of h (by decide)
  rcases ho with rfl | rfl <;> (unfold ekOf at h; simp only at h; split at h <;> first | exact ⟨_, by assumption⟩ | (split at h <;> cases h) | cases h)
theorem ek_ints {P : Program} {op : BinOp} {t : TypeId} {x y : Operand} {n : Nat} (h : ekOf P op t x y = .ints n) :
    ∃ fs, P.underlying t = some (.struct fs) ∧ fs.size = n ∧ intFields P 0 fs.toList = true ∧ P.stoodInHeld t = false ∧ P.eqGuardType P.depth t = false := by
  have ho := ek_of h (by simp)
  rcases ho with rfl | rfl <;> (unfold ekOf at h; simp only at h; split at h <;> first | (cases h; done) | skip)
  all_goals (split at h <;> first | (cases h; done) | skip)
  all_goals (rename_i hc; simp only [Bool.and_eq_true, Bool.not_eq_true'] at hc; cases h; exact ⟨_, by assumption, rfl, hc.1.1, hc.1.2, hc.2⟩)

theorem ek_slc {P : Program} {op : BinOp} {t : TypeId} {x y : Operand} (h : ekOf P op t x y = .slc) : (∃ e, P.underlying t = some (.slice e)) ∧ y = .const (.slice none 0 0) := by
  have ho := ek_of h (by decide)
  rcases ho with rfl | rfl <;> (unfold ekOf at h; simp only at h; split at h <;> first | (cases h; done) | skip)
  all_goals (split at h <;> first | (cases h; done) | skip)
  all_goals (rename_i hc; refine ⟨⟨_, by assumption⟩, ?_⟩; unfold isNilS at hc; split at hc <;> first | rfl | (cases hc))
theorem eqlIn_slc {P : Program} {t e : TypeId} {w : World} (ht : P.underlying t = some (.slice e)) (d : Nat) (a : Addr) (l c : Nat) : (Op.equalIn (d + 1) t (.slice (some a) l c) (.slice none 0 0)).run P w = .ok false w := by
  simp [Op.equalIn, underlying, program, Sem.run, ht]

/-- '==' where neither both are nil nor both structs. -/
theorem eqGuard_plain {P : Program} {op : BinOp} {t : TypeId} {x y : Operand} {a b : Value} (h1 : ¬ (a = .nilIface ∧ b = .nilIface)) (h2 : ∀ c d, ¬ (a = .agg c ∧ b = .agg d)) : (eqGuard op t x y a b).run P w = .ok () w := by
  unfold eqGuard
  cases op <;> first | rfl | skip
  all_goals (simp only [Bool.not_true, Bool.false_eq_true, if_false, ↓reduceIte]; split <;> first | (exact absurd ⟨rfl, rfl⟩ h1) | (exact absurd ⟨rfl, rfl⟩ (h2 _ _)) | rfl | skip)
  all_goals (simp; split <;> first | (exact absurd ⟨rfl, rfl⟩ h1) | (exact absurd ⟨rfl, rfl⟩ (h2 _ _)) | rfl)

theorem isConstO_of {x : Operand} (h : isConstO x = true) : ∃ v, x = .const v := by
  cases x <;> first | exact ⟨_, rfl⟩ | (cases h)

theorem eqGuard_const {P : Program} {op : BinOp} {t : TypeId} {x y : Operand} (h : isConstO x = true ∨ isConstO y = true) : (eqGuard op t x y .nilIface .nilIface).run P w = .ok () w := by
  rcases h with h | h
  · obtain ⟨v, rfl⟩ := isConstO_of h
    unfold eqGuard
    cases op <;> first | rfl | simp
  · obtain ⟨v, rfl⟩ := isConstO_of h
    unfold eqGuard
    cases op <;> first | rfl | (cases x <;> simp)

theorem eqGuard_agg {P : Program} {op : BinOp} {t : TypeId} {x y : Operand} {c d : Array Value} (h : P.eqGuardType P.depth t = false) : (eqGuard op t x y (.agg c) (.agg d)).run P w = .ok () w := by
  unfold eqGuard
  cases op <;> first | rfl | simp [program, Sem.run, h]

theorem eqlIn_bool {P : Program} {t : TypeId} (ht : P.underlying t = some .bool) (d : Nat) (x y : Bool) : (Op.equalIn (d + 1) t (.bool x) (.bool y)).run P w = .ok (x == y) w := by
  simp [Op.equalIn, run_underlying ht]
theorem eqlIn_str {P : Program} {t : TypeId} (ht : P.underlying t = some .string) (d : Nat) (x y : ByteArray) : (Op.equalIn (d + 1) t (.string x) (.string y)).run P w = .ok (x == y) w := by
  simp [Op.equalIn, run_underlying ht]
theorem eqlIn_iface_nil {P : Program} {t : TypeId} {ms : Array (String × TypeId)} (ht : P.underlying t = some (.interface ms)) (d : Nat) : (Op.equalIn (d + 1) t .nilIface .nilIface).run P w = .ok true w := by
  simp [Op.equalIn, run_underlying ht]
theorem eqlIn_iface_l {P : Program} {t : TypeId} {ms : Array (String × TypeId)} (ht : P.underlying t = some (.interface ms)) (d : Nat) (u : TypeId) (v : Value) : (Op.equalIn (d + 1) t .nilIface (.iface u v)).run P w = .ok false w := by
  simp [Op.equalIn, run_underlying ht]
theorem eqlIn_iface_r {P : Program} {t : TypeId} {ms : Array (String × TypeId)} (ht : P.underlying t = some (.interface ms)) (d : Nat) (u : TypeId) (v : Value) : (Op.equalIn (d + 1) t (.iface u v) .nilIface).run P w = .ok false w := by
  simp [Op.equalIn, run_underlying ht]
theorem eqlIn_ptr_nil_r {P : Program} {t e : TypeId} (ht : P.underlying t = some (.pointer e)) (d : Nat) (a : Option Addr) : (Op.equalIn (d + 1) t (.pointer a) (.pointer none)).run P w = .ok a.isNone w := by
  cases a <;> simp [Op.equalIn, run_underlying ht]
theorem eqlIn_ptr_nil_l {P : Program} {t e : TypeId} (ht : P.underlying t = some (.pointer e)) (d : Nat) (a : Option Addr) : (Op.equalIn (d + 1) t (.pointer none) (.pointer a)).run P w = .ok a.isNone w := by
  cases a <;> simp [Op.equalIn, run_underlying ht]

theorem er_ptr {v : Value} {g : Nat} (h : VRep E np w N A K (.er g) v) : ∃ b, E.sent g = some b ∧ v = .iface E.T (.pointer (some ⟨b.1, b.2, none⟩)) := vrep_er h

/-- Is it nil? -/
theorem isNil_sound {X : AV} {v : Value} {t : Bool} (h : VRep E np w N A K X v) (hn : isNil X = some t) : ∃ a, v = .pointer a ∧ t = a.isNone := by
  unfold isNil at hn
  split at hn <;> first | (cases hn; done) | skip
  · cases hn; exact ⟨none, vrep_np h, rfl⟩
  · cases hn; exact ⟨_, vrep_rf h, rfl⟩
  · cases hn; obtain ⟨blk, off, f, rfl, _⟩ := vrep_el h; exact ⟨_, rfl, rfl⟩
  · cases hn; exact ⟨_, vrep_gl h, rfl⟩


theorem part_int {P : Program} {t : TypeId} {k : IntKind} (ht : P.underlying t = some (.int k)) {cs : Array Value} {o : Nat} {v : Value} (h : cs[o]? = some v) : (part t cs o).run P w = .ok v w := by
  simp [part, isAgg, run_underlying ht, h]

theorem eqlIn_int {P : Program} {t : TypeId} {k0 k : IntKind} (ht : P.underlying t = some (.int k0)) (d : Nat) (x y : Int) : (Op.equalIn (d + 1) t (.int k x) (.int k y)).run P w = .ok (x == y) w := by
  simp [Op.equalIn, run_underlying ht]

theorem fields_loop {P : Program} (d : Nat) (xs ys : Array Value) : ∀ (l : List Field) (j : Nat) (X Y : List AV) (t : Bool), intFields P j l = true → X.length = l.length → Y.length = l.length →
    (∀ i (h : i < X.length), ∃ v, xs[j + i]? = some v ∧ FRep E w N X[i] v) → (∀ i (h : i < Y.length), ∃ v, ys[j + i]? = some v ∧ FRep E w N Y[i] v) → sameInts X Y = some t →
    (forIn l ((none : Option Bool), ()) fun f __s =>
              if f.name ≠ "_" then do
                let __do_lift ← part f.type xs f.offset
                let __do_lift_1 ← part f.type ys f.offset
                let __do_lift ← Op.equalIn (d + 1) f.type __do_lift __do_lift_1
                if (!__do_lift) = true then pure (ForInStep.done (some false, ()))
                  else pure (ForInStep.yield (none, ()))
              else pure (ForInStep.yield (none, ())) : Sem (Option Bool × Unit)).run P w = .ok (if t then none else some false, ()) w
  | [], j, X, Y, t, _, hx, hy, _, _, hs => by
    simp only [List.length_nil, List.length_eq_zero_iff] at hx hy
    subst hx; subst hy
    simp only [sameInts, Option.some.injEq] at hs
    subst hs
    simp
  | f :: r, j, X, Y, t, hf, hx, hy, hX, hY, hs => by
    simp only [intFields, Bool.and_eq_true] at hf
    obtain ⟨hf0, hf1⟩ := hf
    simp only [isIntField, Bool.and_eq_true, Bool.not_eq_true'] at hf0
    obtain ⟨⟨⟨h1, h2⟩, h3⟩, h4⟩ := hf0
    obtain ⟨k, hk⟩ : ∃ k, P.underlying f.type = some (.int k) := by
      split at h1
      · exact ⟨_, by assumption⟩
      · cases h1
    have hoff : f.offset = j := Nat.eq_of_beq_eq_true h3
    have hne : f.name ≠ "_" := by simpa using h4
    match X, Y, hx, hy with
    | x :: X, y :: Y, hx, hy =>
    obtain ⟨vx, hvx, rx⟩ := hX 0 (by simp)
    obtain ⟨vy, hvy, ry⟩ := hY 0 (by simp)
    simp only [Nat.add_zero, List.getElem_cons_zero] at hvx hvy rx ry
    unfold sameInts at hs
    split at hs
    · rename_i heq _; cases heq
    · rename_i kx a X' ky c Y' e1 e2
      cases e1; cases e2
      cases rx; cases ry
      by_cases hkk : kx = ky
      · subst hkk
        simp only [decide_true, cond_true] at hs
        cases hr : sameInts X Y with
        | none => simp [hr] at hs
        | some t' =>
          simp only [hr, Option.some.injEq] at hs
          subst hs
          have ih := fields_loop d xs ys r (j + 1) X Y t' hf1 (by simpa using hx) (by simpa using hy)
            (fun i h => by have := hX (i + 1) (by simpa using h); simpa [Nat.add_assoc, Nat.add_comm 1 i] using this)
            (fun i h => by have := hY (i + 1) (by simpa using h); simpa [Nat.add_assoc, Nat.add_comm 1 i] using this) hr
          rw [List.forIn_cons]
          simp only [Sem.run_bind, if_pos hne, hoff, part_int hk hvx, part_int hk hvy, Result.andThen_ok, eqlIn_int hk]
          by_cases hac : a = c
          · subst hac
            simpa using ih
          · have : (a == c) = false := by simpa using hac
            simp [this, hac]
      · simp [hkk] at hs
    · cases hs

theorem eqlIn_ints {P : Program} {t : TypeId} {fs : Array Field} (ht : P.underlying t = some (.struct fs)) (hi : intFields P 0 fs.toList = true) (hst : P.stoodInHeld t = false) (d : Nat) {X Y : List AV} {xs ys : List Value} {b : Bool}
    (hx : X.length = fs.size) (hy : Y.length = fs.size) (lx : X.length = xs.length) (ly : Y.length = ys.length) (rx : ∀ j (h1 : j < X.length) (h2 : j < xs.length), FRep E w N X[j] xs[j]) (ry : ∀ j (h1 : j < Y.length) (h2 : j < ys.length), FRep E w N Y[j] ys[j])
    (hs : sameInts X Y = some b) : (Op.equalIn (d + 2) t (.agg xs.toArray) (.agg ys.toArray)).run P w = .ok b w := by
  rw [show d + 2 = (d + 1) + 1 from rfl]
  generalize hm : d + 1 = m
  simp only [Op.equalIn, Sem.run_bind, run_underlying ht, Result.andThen_ok, hst, program, Sem.run]
  rw [← Array.forIn_toList]
  simp only [Bool.false_eq_true, if_false, Sem.run_bind]
  subst hm
  rw [fields_loop (E := E) (N := N) d xs.toArray ys.toArray fs.toList 0 X Y b hi (by simpa using hx) (by simpa using hy)
    (fun i h => ⟨xs[i]'(by omega), by simp [List.getElem?_eq_getElem (show i < xs.length by omega)], rx i h (by omega)⟩)
    (fun i h => ⟨ys[i]'(by omega), by simp [List.getElem?_eq_getElem (show i < ys.length by omega)], ry i h (by omega)⟩) hs]
  cases b <;> rfl

theorem eqlIn_slcN {P : Program} {t e : TypeId} (ht : P.underlying t = some (.slice e)) (d : Nat) : (Op.equalIn (d + 1) t (.slice none 0 0) (.slice none 0 0)).run P w = .ok true w := by
  simp [Op.equalIn, run_underlying ht]

/-- '==' and '!=' of two values that are no numbers. -/
theorem eql_sound {sents : List Nat} (hE : EnvOk E sents) (G : GOk E w) {op : BinOp} {t : TypeId} {x y : Operand} {X Y : AV} {vx vy : Value} {b : Bool} (hx : VRep E np w N A K X vx) (hy : VRep E np w N A K Y vy) (hcy : ∀ v, y = .const v → vy = v)
    (h : eqlV (ekOf E.P op t x y) X Y = some b) : (eqGuard op t x y vx vy).run E.P w = .ok () w ∧ (Op.equal t vx vy).run E.P w = .ok b w ∧ Go.binOp .eql t vx vy = (do pure (.bool (← Op.equal t vx vy))) ∧ Go.binOp .neq t vx vy = (do pure (.bool (!(← Op.equal t vx vy)))) := by
  have hmax : Op.maxDepth = 9998 + 2 := rfl
  rw [show Op.equal t vx vy = Op.equalIn (9998 + 2) t vx vy from rfl]
  generalize hk : ekOf E.P op t x y = k at h
  unfold eqlV at h
  split at h
  · have := vrep_bool hx; have := vrep_bool hy; subst vx; subst vy
    cases h
    refine ⟨eqGuard_plain (by simp) (by simp), eqlIn_bool (ek_bool hk) _ _ _, rfl, rfl⟩
  case _ g h' | _ g h' =>
    obtain ⟨ms, hms⟩ := ek_iface (by first | exact .inl hk | exact .inr hk)
    obtain ⟨p, hp, rfl⟩ := vrep_er hx
    obtain ⟨q, hq, rfl⟩ := vrep_er hy
    obtain ⟨el, i, e1, e2, e3⟩ := hE.ptr ⟨_, _, hp⟩
    obtain ⟨i', e4, e5⟩ := hE.cmp ⟨_, _, hp⟩
    refine ⟨eqGuard_plain (by simp [Env.errV]) (by simp [Env.errV]), ?_, rfl, rfl⟩
    cases h
    by_cases hpq : p = q
    · subst hpq
      have := G.inj _ _ _ hp hq
      subst this
      rw [Nat.beq_refl]
      exact run_equalIn_iface_ptr_same w 9998 _ hms e1 e4 e5 e2
    · have : Nat.beq g h' = false := by
        rw [← Bool.not_eq_true, Nat.beq_eq]
        rintro rfl
        rw [hp] at hq; exact hpq (Option.some.inj hq)
      rw [this]
      obtain ⟨c1, t1, o1, _⟩ := G.obj _ _ hp
      obtain ⟨c2, t2, o2, _⟩ := G.obj _ _ hq
      exact run_equalIn_iface_ptr_other w 9998 hms e1 e4 e5 e2 e3 (fun e => hpq (by injection e with e1 e2; exact Prod.ext e1 e2)) o1 o2
  case _ | _ =>
    obtain ⟨ms, hms⟩ := ek_iface (by first | exact .inl hk | exact .inr hk)
    obtain ⟨p, hp, rfl⟩ := vrep_er hx
    have := vrep_nl hy; subst this
    cases h
    exact ⟨eqGuard_plain (by simp [Env.errV]) (by simp [Env.errV]), eqlIn_iface_r hms _ _ _, rfl, rfl⟩
  case _ | _ =>
    obtain ⟨ms, hms⟩ := ek_iface (by first | exact .inl hk | exact .inr hk)
    obtain ⟨p, hp, rfl⟩ := vrep_er hy
    have := vrep_nl hx; subst this
    cases h
    exact ⟨eqGuard_plain (by simp [Env.errV]) (by simp [Env.errV]), eqlIn_iface_l hms _ _ _, rfl, rfl⟩
  case _ | _ =>
    obtain ⟨ms, hms⟩ := ek_iface (by first | exact .inl hk | exact .inr hk)
    obtain ⟨blk, off, f, rfl, _⟩ := vrep_ie hx
    have := vrep_nl hy; subst this
    cases h
    exact ⟨eqGuard_plain (by simp) (by simp), eqlIn_iface_r hms _ _ _, rfl, rfl⟩
  · obtain ⟨ms, hms⟩ := ek_iface (.inr hk)
    have := vrep_nl hx; subst this
    have := vrep_nl hy; subst this
    cases h
    exact ⟨eqGuard_const (ek_ifaceC hk), eqlIn_iface_nil hms _, rfl, rfl⟩
  · obtain ⟨e, he⟩ := ek_ptr hk
    have := vrep_np hy; subst this
    obtain ⟨a, rfl, rfl⟩ := isNil_sound hx h
    exact ⟨eqGuard_plain (by simp) (by simp), eqlIn_ptr_nil_r he _ _, rfl, rfl⟩
  · obtain ⟨e, he⟩ := ek_ptr hk
    have := vrep_np hx; subst this
    obtain ⟨a, rfl, rfl⟩ := isNil_sound hy h
    exact ⟨eqGuard_plain (by simp) (by simp), eqlIn_ptr_nil_l he _ _, rfl, rfl⟩
  · obtain ⟨⟨e, he⟩, hy0⟩ := ek_slc hk
    have := hcy _ hy0; subst this
    cases h
    obtain ⟨base, c, rfl, h0⟩ : ∃ base c, vx = .slice (some base) _ c ∧ True := by
      cases hx with
      | one h1 => cases h1 with
        | flat h2 => cases h2 with
          | sl cells n base c cs hn h0 h1 =>
            rcases h0 with h0 | ⟨blk, off, rfl, _⟩
            · cases h0
            · exact ⟨_, c, rfl, trivial⟩
    exact ⟨eqGuard_plain (by simp) (by simp), eqlIn_slc he _ _ _ _, rfl, rfl⟩
  · obtain ⟨⟨e, he⟩, hy0⟩ := ek_slc hk
    have := hcy _ hy0; subst this
    cases h
    have := vrep_z hx; subst this
    exact ⟨eqGuard_plain (by simp) (by simp), eqlIn_slcN he _, rfl, rfl⟩
  · obtain ⟨fs, h1, h2, h3, h4, h5⟩ := ek_ints hk
    rename_i n xs ys
    cases hb : (Nat.beq xs.length n && Nat.beq ys.length n)
    · simp [hb] at h
    · simp only [hb, cond_true] at h
      simp only [Bool.and_eq_true, Nat.beq_eq] at hb
      obtain ⟨l1, rfl, l2, l3⟩ := vrep_ag hx
      obtain ⟨l4, rfl, l5, l6⟩ := vrep_ag hy
      exact ⟨eqGuard_agg h5, eqlIn_ints h1 h3 h4 9998 (by omega) (by omega) l2 l5 l3 l6 h, rfl, rfl⟩
  · cases h

end
end Zab

namespace Zab
open Go
set_option linter.unusedSimpArgs false
set_option linter.unusedVariables false

/-! ### Lists of cells -/

def RepL (E : Env) (w : World) (N : Nat → Prop) (xs : List AV) (vs : List Value) : Prop := xs.length = vs.length ∧ ∀ j (h1 : j < xs.length) (h2 : j < vs.length), FRep E w N xs[j] vs[j]

section
variable {E : Env} {w : World} {N : Nat → Prop}

theorem RepL.nil : RepL E w N [] [] := ⟨rfl, fun j h => by simp at h⟩
theorem RepL.cons {x : AV} {v : Value} {xs : List AV} {vs : List Value} (h : FRep E w N x v) (hs : RepL E w N xs vs) : RepL E w N (x :: xs) (v :: vs) := by
  refine ⟨by simp [hs.1], fun j h1 h2 => ?_⟩
  cases j with
  | zero => exact h
  | succ j => exact hs.2 j (by simpa using h1) (by simpa using h2)
theorem RepL.append {xs ys : List AV} {vs us : List Value} (h : RepL E w N xs vs) (k : RepL E w N ys us) : RepL E w N (xs ++ ys) (vs ++ us) := by
  refine ⟨by simp [h.1, k.1], fun j h1 h2 => ?_⟩
  by_cases hj : j < xs.length
  · rw [List.getElem_append_left hj, List.getElem_append_left (by rw [← h.1]; exact hj)]; exact h.2 j _ _
  · rw [List.getElem_append_right (by omega), List.getElem_append_right (by rw [← h.1]; omega)]
    simp only [← h.1]; exact k.2 _ _ _
theorem RepL.take {xs : List AV} {vs : List Value} (h : RepL E w N xs vs) (n : Nat) : RepL E w N (xs.take n) (vs.take n) := by
  refine ⟨by simp [h.1], fun j h1 h2 => ?_⟩
  simp only [List.getElem_take]; exact h.2 j _ _
theorem RepL.drop {xs : List AV} {vs : List Value} (h : RepL E w N xs vs) (n : Nat) : RepL E w N (xs.drop n) (vs.drop n) := by
  refine ⟨by simp [h.1], fun j h1 h2 => ?_⟩
  simp only [List.getElem_drop]; exact h.2 _ _ _
theorem RepL.set {xs : List AV} {vs : List Value} (h : RepL E w N xs vs) (o : Nat) {x : AV} {v : Value} (hx : FRep E w N x v) : RepL E w N (xs.set o x) (vs.set o v) := by
  refine ⟨by simp [h.1], fun j h1 h2 => ?_⟩
  simp only [List.getElem_set]
  split
  · exact hx
  · exact h.2 j _ _
theorem RepL.over {xs ys : List AV} {vs us : List Value} (h : RepL E w N xs vs) (o : Nat) (k : RepL E w N ys us) : RepL E w N (over xs o ys) (vs.take o ++ (us ++ vs.drop (o + us.length))) := by
  unfold Zab.over
  rw [k.1]
  exact (h.take o).append (k.append (h.drop _))
theorem RepL.consts {l : List Value} (h : l.all flatConst = true) : RepL E w N (l.map constAV) l := ⟨by simp, fun j h1 h2 => FRep.list_map h j h1 h2⟩
theorem RepL.mono {w' : World} {N' : Nat → Prop} (hN : ∀ b, N b → N' b) (hw : ∀ b, N b → w'.heap[b]? = w.heap[b]?) {xs : List AV} {vs : List Value} (h : RepL E w N xs vs) : RepL E w' N' xs vs :=
  ⟨h.1, fun j h1 h2 => (h.2 j h1 h2).mono hN hw⟩
theorem RepL.one {xs : List AV} {vs : List Value} (h : RepL E w N xs vs) : ∀ v ∈ vs, v.oneCell' = true := fun v hv => by
  obtain ⟨j, hj, rfl⟩ := List.getElem_of_mem hv
  exact (h.2 j (by rw [h.1]; exact hj) hj).one
theorem RepL.flatten_rep {zs : List AV} {us : List Value} (h : RepL E w N zs us) : ∀ n, RepL E w N (zrep zs n) (List.replicate n us).flatten
  | 0 => by simpa [zrep] using RepL.nil
  | n + 1 => by
    have := h.append (RepL.flatten_rep h n)
    simpa [zrep, List.replicate_succ] using this

theorem RepL.get {xs : List AV} {vs : List Value} (h : RepL E w N xs vs) {j : Nat} {x : AV} (hx : xs[j]? = some x) : ∃ v, vs[j]? = some v ∧ FRep E w N x v := by
  obtain ⟨hj, rfl⟩ := List.getElem?_eq_some_iff.1 hx
  exact ⟨vs[j]'(by rw [← h.1]; exact hj), List.getElem?_eq_getElem (by rw [← h.1]; exact hj), h.2 j _ _⟩

variable {np : Nat} {A K : Nat → Nat}

theorem vrep_agL {cs : List AV} {v : Value} (h : VRep E np w N A K (.ag cs) v) : ∃ l : List Value, v = .agg l.toArray ∧ RepL E w N cs l := by
  obtain ⟨l, h1, h2, h3⟩ := vrep_ag h; exact ⟨l, h1, h2, h3⟩
theorem VRep.agL {cs : List AV} {l : List Value} (h : RepL E w N cs l) : VRep E np w N A K (.ag cs) (.agg l.toArray) := .one (.ag cs l h.1 h.2)

/-- What a value's cells are, in the model. -/
theorem cells_sound {x : AV} {v : Value} {sz : Nat} {cs : List AV} (h : VRep E np w N A K x v) (hc : cellsOf sz x = some cs) : RepL E w N cs v.cells.toList ∧ cs.length = sz := by
  unfold cellsOf at hc
  split at hc
  · rename_i l
    cases hb : Nat.beq l.length sz
    · simp [hb] at hc
    · simp only [hb, cond_true, Option.some.injEq] at hc
      subst hc
      obtain ⟨us, rfl, hr⟩ := vrep_agL h
      exact ⟨by simpa [Value.cells] using hr, Nat.eq_of_beq_eq_true hb⟩
  · cases hb : (Nat.beq sz 1 && x.flat)
    · simp [hb] at hc
    · simp only [hb, cond_true, Option.some.injEq] at hc
      subst hc
      simp only [Bool.and_eq_true] at hb
      have hf := vrep_flat h hb.2
      have hv : v.cells = #[v] := by
        cases hf <;> rfl
      rw [hv]
      have := Nat.eq_of_beq_eq_true hb.1
      exact ⟨RepL.cons hf RepL.nil, by simp [this]⟩

theorem agg_of {P : Program} {t : TypeId} {m : Option Nat} (hm : aggOfT P t = some m) :
    (m = none ∧ ∀ w : World, (isAgg t).run P w = .ok false w) ∨ (∃ n i, m = some n ∧ P.info? t = some i ∧ i.size = n ∧ (∃ d, P.underlying t = some d ∧ d.isRow = true) ∧ ∀ w : World, (isAgg t).run P w = .ok true w) := by
  unfold aggOfT at hm
  cases hu : P.underlying t with
  | none => simp [hu] at hm
  | some d =>
    have hag : ∀ w : World, (isAgg t).run P w = .ok d.isRow w := by
      intro w
      unfold isAgg
      rw [Sem.run_bind, run_underlying hu]
      cases d <;> rfl
    simp only [hu] at hm
    cases d
    case struct fs =>
      right
      simp only [sizeOfT, Option.map_map] at hm
      cases hi : P.info? t with
      | none => simp [hi] at hm
      | some i =>
        simp only [hi, Option.map_some, Option.some.injEq, Function.comp] at hm
        exact ⟨_, i, hm.symm, rfl, rfl, ⟨_, rfl, rfl⟩, hag⟩
    case array n e =>
      right
      simp only [sizeOfT, Option.map_map] at hm
      cases hi : P.info? t with
      | none => simp [hi] at hm
      | some i =>
        simp only [hi, Option.map_some, Option.some.injEq, Function.comp] at hm
        exact ⟨_, i, hm.symm, rfl, rfl, ⟨_, rfl, rfl⟩, hag⟩
    all_goals (simp only [Option.some.injEq] at hm; exact .inl ⟨hm.symm, hag⟩)

/-- A part of cells, in the model. -/
theorem part_sound {P : Program} {t : TypeId} {m : Option Nat} (hm : aggOfT P t = some m) {cs : List AV} {l : List Value} (h : RepL E w N cs l) {o : Nat} {r : AV} (hp : partV cs o m = some r) :
    ∃ v, (part t l.toArray o).run P w = .ok v w ∧ VRep E np w N A K r v := by
  rcases agg_of hm with ⟨rfl, hag⟩ | ⟨n, i, rfl, hi, hs, _, hag⟩
  · simp only [partV] at hp
    obtain ⟨v, hv, hf⟩ := h.get hp
    exact ⟨v, by simp [part, hag, hv], .one (.flat hf)⟩
  · simp only [partV] at hp
    cases hb : Nat.ble (o + n) cs.length
    · simp [hb] at hp
    · simp only [hb, cond_true, Option.some.injEq] at hp
      subst hp
      have hle := Nat.le_of_ble_eq_true hb
      have hle' : o + n ≤ l.length := by rw [← h.1]; exact hle
      exact ⟨.agg ((l.drop o).take n).toArray, by simp [part, hag, Go.sizeOf, typeInfo, hi, hs, List.extract_eq_take_drop], VRep.agL ((h.drop o).take n)⟩

/-- Parts put into cells. -/
theorem fill_sound {place : Nat → Option (Nat × Nat)} {ρ : Operand → AV} {ev : Operand → Value} (hρ : ∀ x, VRep E np w N A K (ρ x) (ev x)) :
    ∀ (parts : List (Nat × Operand)) (aparts : List (Nat × Nat × Operand)), (aparts.length = parts.length ∧ ∀ j (h1 : j < aparts.length) (h2 : j < parts.length), place (parts[j]).1 = some ((aparts[j]).1, (aparts[j]).2.1) ∧ (aparts[j]).2.2 = (parts[j]).2) →
    ∀ {cs r : List AV} {l : List Value}, RepL E w N cs l → fillV ρ aparts cs = some r → ∃ l' : List Value, Instr.fill place l.toArray (parts.map fun p => (p.1, ev p.2)) = some l'.toArray ∧ RepL E w N r l'
  | [], [], _, cs, r, l, h, hf => by
    simp only [fillV, Option.some.injEq] at hf
    subst hf
    exact ⟨l, rfl, h⟩
  | [], _ :: _, hp, _, _, _, _, _ => by simp at hp
  | _ :: _, [], hp, _, _, _, _, _ => by simp at hp
  | (i, x) :: ps, (off, sz, y) :: aps, hp, cs, r, l, h, hf => by
    obtain ⟨hpl, hpa⟩ := hp
    obtain ⟨hpl0, he⟩ := hpa 0 (by simp) (by simp)
    have he : y = x := he
    subst he
    simp only [List.getElem_cons_zero] at hpl0 hf
    simp only [fillV] at hf
    cases hc : cellsOf sz (ρ y) with
    | none => simp [hc] at hf
    | some vs =>
      simp only [hc] at hf
      obtain ⟨hr, hlen⟩ := cells_sound (hρ y) hc
      cases hb : Nat.ble (off + sz) cs.length
      · simp [hb] at hf
      · simp only [hb, cond_true] at hf
        have hle := Nat.le_of_ble_eq_true hb
        have hsz : (ev y).cells.size = sz := by rw [← hlen, hr.1]; simp
        have hrest : ∀ j (h1 : j < aps.length) (h2 : j < ps.length), place (ps[j]).1 = some ((aps[j]).1, (aps[j]).2.1) ∧ (aps[j]).2.2 = (ps[j]).2 := fun j h1 h2 => by
          have := hpa (j + 1) (by simpa using h1) (by simpa using h2)
          simpa using this
        have key : ∀ (us : List Value) (k : Nat) (c : List Value), off + k + us.length ≤ c.length →
            (us.zipIdx k).foldl (fun (cs : Array Value) (p : Value × Nat) => cs.setIfInBounds (off + p.2) p.1) c.toArray = (c.take (off + k) ++ (us ++ c.drop (off + k + us.length))).toArray := by
          intro us
          induction us with
          | nil => intro k c _; simp
          | cons u us ih =>
            intro k c hc
            simp only [List.length_cons] at hc
            simp only [List.zipIdx_cons, List.foldl_cons]
            have : c.toArray.setIfInBounds (off + k) u = (c.set (off + k) u).toArray := by simp
            rw [this, ih (k + 1) _ (by simp; omega)]
            congr 1
            rw [List.set_eq_take_append_cons_drop, if_pos (by omega)]
            apply List.ext_getElem?
            intro n
            simp only [List.getElem?_append, List.length_take, List.length_append, List.length_cons, List.getElem?_take, List.getElem?_drop, List.getElem?_cons, List.length_drop]
            repeat' split
            all_goals first | omega | rfl | skip
            all_goals (congr 1; omega)
        have hstep : Instr.fill place l.toArray (((i, y) :: ps).map fun p => (p.1, ev p.2)) =
            Instr.fill place (l.take off ++ ((ev y).cells.toList ++ l.drop (off + (ev y).cells.toList.length))).toArray (ps.map fun p => (p.1, ev p.2)) := by
          simp only [List.map_cons, Instr.fill, hpl0]
          rw [if_neg (by
            simp only [Bool.or_eq_true, decide_eq_true_eq, not_or]
            refine ⟨by simp [hsz], ?_⟩
            have := h.1
            simp; omega)]
          congr 1
          have := key (ev y).cells.toList 0 l (by have := h.1; simp; omega)
          simp only [Nat.add_zero] at this
          rw [← this]
          rw [← Array.foldl_toList]
          simp
        rw [hstep]
        have hover : fillV ρ aps (over cs off vs) = some r := by
          revert hf
          match vs, hlen with
          | [], _ => exact id
          | [v], hl =>
            intro hf
            have : over cs off [v] = cs.set off v := by
              unfold over
              simp only [List.length_cons, List.length_nil] at hl
              rw [List.set_eq_take_append_cons_drop, if_pos (by omega)]
              simp
            rw [this]; exact hf
          | _ :: _ :: _, _ => exact id
        exact fill_sound hρ ps aps ⟨by simpa using hpl, hrest⟩ (h.over off hr) hover

end
end Zab

namespace Zab
open Go
set_option linter.unusedSimpArgs false
set_option linter.unusedVariables false

/-- A cell that may be a name. -/
def CQ (E : Env) (np : Nat) (w : World) (N : Nat → Prop) (A K : Nat → Nat) (x : AV) (v : Value) : Prop := x.cellQ = true ∧ v.oneCell' = true ∧ V1 E np w N A K x v

def RepQ (E : Env) (np : Nat) (w : World) (N : Nat → Prop) (A K : Nat → Nat) (xs : List AV) (vs : List Value) : Prop := xs.length = vs.length ∧ ∀ j (h1 : j < xs.length) (h2 : j < vs.length), CQ E np w N A K xs[j] vs[j]

section
variable {E : Env} {np : Nat} {w : World} {N : Nat → Prop} {A K : Nat → Nat}

theorem RepQ.nil : RepQ E np w N A K [] [] := ⟨rfl, fun j h => by simp at h⟩
theorem RepQ.cons {x : AV} {v : Value} {xs : List AV} {vs : List Value} (h : CQ E np w N A K x v) (hs : RepQ E np w N A K xs vs) : RepQ E np w N A K (x :: xs) (v :: vs) := by
  refine ⟨by simp [hs.1], fun j h1 h2 => ?_⟩
  cases j with
  | zero => exact h
  | succ j => exact hs.2 j (by simpa using h1) (by simpa using h2)
theorem RepQ.append {xs ys : List AV} {vs us : List Value} (h : RepQ E np w N A K xs vs) (k : RepQ E np w N A K ys us) : RepQ E np w N A K (xs ++ ys) (vs ++ us) := by
  refine ⟨by simp [h.1, k.1], fun j h1 h2 => ?_⟩
  by_cases hj : j < xs.length
  · rw [List.getElem_append_left hj, List.getElem_append_left (by rw [← h.1]; exact hj)]; exact h.2 j _ _
  · rw [List.getElem_append_right (by omega), List.getElem_append_right (by rw [← h.1]; omega)]
    simp only [← h.1]; exact k.2 _ _ _
theorem RepQ.take {xs : List AV} {vs : List Value} (h : RepQ E np w N A K xs vs) (n : Nat) : RepQ E np w N A K (xs.take n) (vs.take n) := by
  refine ⟨by simp [h.1], fun j h1 h2 => ?_⟩
  simp only [List.getElem_take]; exact h.2 j _ _
theorem RepQ.drop {xs : List AV} {vs : List Value} (h : RepQ E np w N A K xs vs) (n : Nat) : RepQ E np w N A K (xs.drop n) (vs.drop n) := by
  refine ⟨by simp [h.1], fun j h1 h2 => ?_⟩
  simp only [List.getElem_drop]; exact h.2 _ _ _
theorem RepQ.set {xs : List AV} {vs : List Value} (h : RepQ E np w N A K xs vs) (o : Nat) {x : AV} {v : Value} (hx : CQ E np w N A K x v) : RepQ E np w N A K (xs.set o x) (vs.set o v) := by
  refine ⟨by simp [h.1], fun j h1 h2 => ?_⟩
  simp only [List.getElem_set]
  split
  · exact hx
  · exact h.2 j _ _
theorem RepQ.over {xs ys : List AV} {vs us : List Value} (h : RepQ E np w N A K xs vs) (o : Nat) (k : RepQ E np w N A K ys us) : RepQ E np w N A K (over xs o ys) (vs.take o ++ (us ++ vs.drop (o + us.length))) := by
  unfold Zab.over
  rw [k.1]
  exact (h.take o).append (k.append (h.drop _))
theorem RepQ.get {xs : List AV} {vs : List Value} (h : RepQ E np w N A K xs vs) {j : Nat} {x : AV} (hx : xs[j]? = some x) : ∃ v, vs[j]? = some v ∧ CQ E np w N A K x v := by
  obtain ⟨hj, rfl⟩ := List.getElem?_eq_some_iff.1 hx
  exact ⟨vs[j]'(by rw [← h.1]; exact hj), List.getElem?_eq_getElem (by rw [← h.1]; exact hj), h.2 j _ _⟩


theorem flat_cellQ {x : AV} (h : x.flat = true) : x.cellQ = true := by cases x <;> first | rfl | cases h
theorem CQ.ofFlat {x : AV} {v : Value} (h : FRep E w N x v) : CQ E np w N A K x v := ⟨flat_cellQ h.flat, h.one, .flat h⟩
theorem RepQ.ofL {xs : List AV} {vs : List Value} (h : RepL E w N xs vs) : RepQ E np w N A K xs vs := ⟨h.1, fun j h1 h2 => .ofFlat (h.2 j h1 h2)⟩
theorem RepQ.one {xs : List AV} {vs : List Value} (h : RepQ E np w N A K xs vs) : ∀ v ∈ vs, v.oneCell' = true := fun v hv => by
  obtain ⟨j, hj, rfl⟩ := List.getElem_of_mem hv
  exact (h.2 j (by rw [h.1]; exact hj) hj).2.1
theorem RepQ.mono {w' : World} {N' : Nat → Prop} {A' K' : Nat → Nat} (hN : ∀ b, N b → N' b) (hw : ∀ b, N b → w'.heap[b]? = w.heap[b]?) {xs : List AV} {vs : List Value} (hx : ∀ e, (∃ x ∈ xs, names1 e x) → A' e = A e ∧ K' e = K e) (h : RepQ E np w N A K xs vs) : RepQ E np w' N' A' K' xs vs :=
  ⟨h.1, fun j h1 h2 => ⟨(h.2 j h1 h2).1, (h.2 j h1 h2).2.1, (h.2 j h1 h2).2.2.mono hN hw fun d hd => hx d ⟨_, List.getElem_mem h1, hd⟩⟩⟩

theorem allFlat_of : ∀ {l : List AV}, allFlat l = true → ∀ j (h : j < l.length), l[j].flat = true
  | [], _, j, h => by simp at h
  | x :: r, h, j, hj => by
    simp only [allFlat, Bool.and_eq_true] at h
    cases j with
    | zero => exact h.1
    | succ j => exact allFlat_of h.2 j (by simpa using hj)
theorem V1.ofF {x : AV} {v : Value} (h : V1 E np w N A K x v) (hx : x.flat = true) : FRep E w N x v := by
  cases h <;> first | assumption | (simp [AV.flat] at hx)
theorem RepQ.flat {xs : List AV} {vs : List Value} (h : RepQ E np w N A K xs vs) (hf : allFlat xs = true) : RepL E w N xs vs := ⟨h.1, fun j h1 h2 => (h.2 j h1 h2).2.2.ofF (allFlat_of hf j h1)⟩

theorem cellQ_plain {x : AV} {v : Value} (h : VRep E np w N A K x v) (hx : x.cellQ = true) : V1 E np w N A K x v := by
  cases h with
  | one h => exact h
  | tp => cases hx
  | fn => cases hx
  | aq => cases hx
theorem gone_one {x : AV} {v : Value} (h : V1 E np w N A K x v) (hx : x.cellQ = true) (hg : x ≠ .gone) : v.oneCell' = true := by
  cases h with
  | flat h => exact h.one
  | gone => exact (hg rfl).elim
  | rf => rfl
  | rs => rfl
  | _ => cases hx

theorem vrep_aqL {cs : List AV} {v : Value} (hq : ∀ x ∈ cs, x.cellQ = true) (h : VRep E np w N A K (.aq cs) v) : ∃ l : List Value, v = .agg l.toArray ∧ RepQ E np w N A K cs l := by
  obtain ⟨l, h1, h2, h3, h4⟩ := vrep_aq h
  exact ⟨l, h1, h2, fun j p q => ⟨hq _ (List.getElem_mem p), h3 _ (List.getElem_mem q), h4 j p q⟩⟩
theorem VRep.aqL {cs : List AV} {l : List Value} (h : RepQ E np w N A K cs l) : VRep E np w N A K (.aq cs) (.agg l.toArray) := .aq cs l h.1 h.one fun j p q => (h.2 j p q).2.2

theorem cellN_Q {x : AV} (h : x.cellN = true) : x.cellQ = true ∧ x ≠ .gone := by
  cases x <;> first | (cases h; done) | exact ⟨rfl, by simp⟩
theorem allQ_of : ∀ {l : List AV}, allQ l = true → ∀ x ∈ l, x.cellQ = true
  | [], _, x, h => by cases h
  | y :: r, h, x, hx => by
    simp only [allQ, Bool.and_eq_true] at h
    rcases List.mem_cons.1 hx with rfl | hx
    · exact h.1
    · exact allQ_of h.2 x hx

/-- What a value's cells are, in the model. -/
theorem cellsQ_sound {x : AV} {v : Value} {sz : Nat} {cs : List AV} (h : VRep E np w N A K x v) (hc : cellsQ sz x = some cs) : RepQ E np w N A K cs v.cells.toList ∧ cs.length = sz := by
  unfold cellsQ at hc
  split at hc
  · rename_i l
    cases hb : Nat.beq l.length sz
    · simp [hb] at hc
    · simp only [hb, cond_true, Option.some.injEq] at hc
      subst hc
      obtain ⟨us, rfl, hr⟩ := vrep_agL h
      exact ⟨by simpa [Value.cells] using RepQ.ofL hr, Nat.eq_of_beq_eq_true hb⟩
  · rename_i l
    cases hb : (Nat.beq l.length sz && allQ l)
    · simp [hb] at hc
    · simp only [hb, cond_true, Option.some.injEq] at hc
      subst hc
      simp only [Bool.and_eq_true] at hb
      obtain ⟨us, rfl, hr⟩ := vrep_aqL (allQ_of hb.2) h
      exact ⟨by simpa [Value.cells] using hr, Nat.eq_of_beq_eq_true hb.1⟩
  · cases hb : (Nat.beq sz 1 && x.cellN)
    · simp [hb] at hc
    · simp only [hb, cond_true, Option.some.injEq] at hc
      subst hc
      simp only [Bool.and_eq_true] at hb
      have hq := cellN_Q hb.2
      have hf := cellQ_plain h hq.1
      have ho := gone_one hf hq.1 hq.2
      have hv : v.cells = #[v] := by
        cases hf with
        | flat hf => cases hf <;> rfl
        | rf => rfl
        | rs => rfl
        | gone => exact absurd rfl hq.2
        | _ => cases hq.1
      rw [hv]
      have := Nat.eq_of_beq_eq_true hb.1
      exact ⟨RepQ.cons ⟨hq.1, ho, hf⟩ RepQ.nil, by simp [this]⟩

theorem partQ_sound {P : Program} {t : TypeId} {m : Option Nat} (hm : aggOfT P t = some m) {cs : List AV} {l : List Value} (h : RepQ E np w N A K cs l) {o : Nat} {r : AV} (hp : partQ cs o m = some r) :
    ∃ v, (part t l.toArray o).run P w = .ok v w ∧ VRep E np w N A K r v := by
  rcases agg_of hm with ⟨rfl, hag⟩ | ⟨n, i, rfl, hi, hs, _, hag⟩
  · simp only [partQ] at hp
    obtain ⟨v, hv, hf⟩ := h.get hp
    exact ⟨v, by simp [part, hag, hv], .one hf.2.2⟩
  · simp only [partQ] at hp
    cases hb : Nat.ble (o + n) cs.length
    · simp [hb] at hp
    · simp only [hb, cond_true] at hp
      have hle := Nat.le_of_ble_eq_true hb
      have hle' : o + n ≤ l.length := by rw [← h.1]; exact hle
      have hr := (h.drop o).take n
      refine ⟨.agg ((l.drop o).take n).toArray, by simp [part, hag, Go.sizeOf, typeInfo, hi, hs, List.extract_eq_take_drop], ?_⟩
      cases hf : allFlat ((cs.drop o).take n)
      · simp only [hf, cond_false, Option.some.injEq] at hp; subst hp; exact VRep.aqL hr
      · simp only [hf, cond_true, Option.some.injEq] at hp; subst hp; exact VRep.agL (hr.flat hf)

/-- Parts put into cells. -/
theorem fillQ_sound {place : Nat → Option (Nat × Nat)} {ρ : Operand → AV} {ev : Operand → Value} (hρ : ∀ x, VRep E np w N A K (ρ x) (ev x)) :
    ∀ (parts : List (Nat × Operand)) (aparts : List (Nat × Nat × Operand)), (aparts.length = parts.length ∧ ∀ j (h1 : j < aparts.length) (h2 : j < parts.length), place (parts[j]).1 = some ((aparts[j]).1, (aparts[j]).2.1) ∧ (aparts[j]).2.2 = (parts[j]).2) →
    ∀ {cs r : List AV} {l : List Value}, RepQ E np w N A K cs l → fillQ ρ aparts cs = some r → ∃ l' : List Value, Instr.fill place l.toArray (parts.map fun p => (p.1, ev p.2)) = some l'.toArray ∧ RepQ E np w N A K r l'
  | [], [], _, cs, r, l, h, hf => by
    simp only [fillQ, Option.some.injEq] at hf
    subst hf
    exact ⟨l, rfl, h⟩
  | [], _ :: _, hp, _, _, _, _, _ => by simp at hp
  | _ :: _, [], hp, _, _, _, _, _ => by simp at hp
  | (i, x) :: ps, (off, sz, y) :: aps, hp, cs, r, l, h, hf => by
    obtain ⟨hpl, hpa⟩ := hp
    obtain ⟨hpl0, he⟩ := hpa 0 (by simp) (by simp)
    have he : y = x := he
    subst he
    simp only [List.getElem_cons_zero] at hpl0 hf
    simp only [fillQ] at hf
    cases hc : cellsQ sz (ρ y) with
    | none => simp [hc] at hf
    | some vs =>
      simp only [hc] at hf
      obtain ⟨hr, hlen⟩ := cellsQ_sound (hρ y) hc
      cases hb : Nat.ble (off + sz) cs.length
      · simp [hb] at hf
      · simp only [hb, cond_true] at hf
        have hle := Nat.le_of_ble_eq_true hb
        have hsz : (ev y).cells.size = sz := by rw [← hlen, hr.1]; simp
        have hrest : ∀ j (h1 : j < aps.length) (h2 : j < ps.length), place (ps[j]).1 = some ((aps[j]).1, (aps[j]).2.1) ∧ (aps[j]).2.2 = (ps[j]).2 := fun j h1 h2 => by
          have := hpa (j + 1) (by simpa using h1) (by simpa using h2)
          simpa using this
        have key : ∀ (us : List Value) (k : Nat) (c : List Value), off + k + us.length ≤ c.length →
            (us.zipIdx k).foldl (fun (cs : Array Value) (p : Value × Nat) => cs.setIfInBounds (off + p.2) p.1) c.toArray = (c.take (off + k) ++ (us ++ c.drop (off + k + us.length))).toArray := by
          intro us
          induction us with
          | nil => intro k c _; simp
          | cons u us ih =>
            intro k c hc
            simp only [List.length_cons] at hc
            simp only [List.zipIdx_cons, List.foldl_cons]
            have : c.toArray.setIfInBounds (off + k) u = (c.set (off + k) u).toArray := by simp
            rw [this, ih (k + 1) _ (by simp; omega)]
            congr 1
            rw [List.set_eq_take_append_cons_drop, if_pos (by omega)]
            apply List.ext_getElem?
            intro n
            simp only [List.getElem?_append, List.length_take, List.length_append, List.length_cons, List.getElem?_take, List.getElem?_drop, List.getElem?_cons, List.length_drop]
            repeat' split
            all_goals first | omega | rfl | skip
            all_goals (congr 1; omega)
        have hstep : Instr.fill place l.toArray (((i, y) :: ps).map fun p => (p.1, ev p.2)) =
            Instr.fill place (l.take off ++ ((ev y).cells.toList ++ l.drop (off + (ev y).cells.toList.length))).toArray (ps.map fun p => (p.1, ev p.2)) := by
          simp only [List.map_cons, Instr.fill, hpl0]
          rw [if_neg (by
            simp only [Bool.or_eq_true, decide_eq_true_eq, not_or]
            refine ⟨by simp [hsz], ?_⟩
            have := h.1
            simp; omega)]
          congr 1
          have := key (ev y).cells.toList 0 l (by have := h.1; simp; omega)
          simp only [Nat.add_zero] at this
          rw [← this]
          rw [← Array.foldl_toList]
          simp
        rw [hstep]
        have hover : fillQ ρ aps (over cs off vs) = some r := by
          revert hf
          match vs, hlen with
          | [], _ => exact id
          | [v], hl =>
            intro hf
            have : over cs off [v] = cs.set off v := by
              unfold over
              simp only [List.length_cons, List.length_nil] at hl
              rw [List.set_eq_take_append_cons_drop, if_pos (by omega)]
              simp
            rw [this]; exact hf
          | _ :: _ :: _, _ => exact id
        exact fillQ_sound hρ ps aps ⟨by simpa using hpl, hrest⟩ (h.over off hr) hover

end
end Zab

namespace Zab
open Go
set_option linter.unusedSimpArgs false
set_option linter.unusedVariables false

/-- A pure operation's end. -/
def PureOk (C : Ctx) (A K : Nat → Nat) (S : St) (a : Act) (w : World) (o : Oper) (r : AV) : Prop :=
  ∃ v w', (execOp a.eval o).run C.E.P w = .ok (.value v) w' ∧ Grew w w' ∧ VRep C.E C.np w' (Still C A K S.l w') A K r v

section
variable {C : Ctx} {A K : Nat → Nat} {S : St} {a : Act} {w : World} {o : Oper} {r : AV}

theorem PureOk.of {v : Value} (h : (execOp a.eval o).run C.E.P w = .ok (.value v) w) (hr : VRep C.E C.np w (Still C A K S.l w) A K r v) : PureOk C A K S a w o r :=
  ⟨v, w, h, Grew.refl w, hr⟩

theorem run_v {P : Program} {s : Sem Value} {v : Value} {w w' : World} (h : s.run P w = .ok v w') : (do pure (Next.value (← s)) : Sem Next).run P w = .ok (.value v) w' := by
  rw [Sem.run_bind, h]; rfl

theorem p_bin {sents : List Nat} (hE : EnvOk C.E sents) (R : Rel C A K S a w) {op : BinOp} {t u : TypeId} {x y : Operand} (ho : o.op = .binOp op t x y u)
    (h : binV (ekOf C.E.P op t x y) op (evalO S.s x) (evalO S.s y) = some r) : PureOk C A K S a w o r := by
  have hx := R.eval x
  have hy := R.eval y
  suffices ∃ v, (do eqGuard op t x y (a.eval x) (a.eval y); Go.binOp op t (a.eval x) (a.eval y) : Sem Value).run C.E.P w = .ok v w ∧ VRep C.E C.np w (Still C A K S.l w) A K r v by
    obtain ⟨v, h1, h2⟩ := this
    refine PureOk.of (v := v) ?_ h2
    simp only [execOp, ho]
    exact run_v h1
  have hcy : ∀ v, y = .const v → a.eval y = v := fun v e => by subst e; rfl
  generalize hX : evalO S.s x = X at h hx
  generalize hY : evalO S.s y = Y at h hy
  generalize a.eval x = vx at hx
  generalize a.eval y = vy at hy hcy
  unfold binV at h
  split at h
  · rename_i k p k' q
    have e1 := vrep_int hx
    have e2 := vrep_int hy
    subst e1; subst e2
    have hg : (eqGuard op t x y (.int k p) (.int k' q)).run C.E.P w = .ok () w := eqGuard_plain (by simp) (by simp)
    simp only [Sem.run_bind, hg, Result.andThen_ok]
    split at h
    · obtain ⟨v, hv, hr⟩ := shift_sound (P := C.E.P) (w := w) (yk := k') h
      exact ⟨v, by simpa [Go.binOp] using hv, .one (.flat (hr _ _))⟩
    · obtain ⟨v, hv, hr⟩ := shift_sound (P := C.E.P) (w := w) (yk := k') h
      exact ⟨v, by simpa [Go.binOp] using hv, .one (.flat (hr _ _))⟩
    · rename_i h1 h2
      by_cases hk : k = k'
      · subst hk
        simp only [decide_true, cond_true] at h
        obtain ⟨v, hv, hr⟩ := int_sound (P := C.E.P) (w := w) (t := t) (fun e => h1 e) (fun e => h2 e) h
        exact ⟨v, hv, .one (.flat (hr _ _))⟩
      · simp [hk] at h
  · rename_i hno
    split at h
    · cases he : eqlV (ekOf C.E.P .eql t x y) X Y with
      | none => simp [he] at h
      | some b =>
        simp only [he, Option.some.injEq] at h
        subst h
        obtain ⟨h1, h2, h3, _⟩ := eql_sound hE R.glob hx hy hcy he
        refine ⟨.bool b, ?_, .one (.flat (.b b))⟩
        simp only [Sem.run_bind, h1, Result.andThen_ok, h3, h2]
        rfl
    · cases he : eqlV (ekOf C.E.P .neq t x y) X Y with
      | none => simp [he] at h
      | some b =>
        simp only [he, Option.some.injEq] at h
        subst h
        obtain ⟨h1, h2, _, h3⟩ := eql_sound hE R.glob hx hy hcy he
        refine ⟨.bool (!b), ?_, .one (.flat (.b _))⟩
        simp only [Sem.run_bind, h1, Result.andThen_ok, h3, h2]
        rfl
    · cases h

theorem p_un (R : Rel C A K S a w) {op : UnOp} {t : TypeId} {x : Operand} (ho : o.op = .unOp op t x) (h : unV op (evalO S.s x) = some r) : PureOk C A K S a w o r := by
  have hx := R.eval x
  generalize evalO S.s x = X at h hx
  unfold unV at h
  split at h
  · simp only [Option.some.injEq] at h; subst h
    refine PureOk.of (v := .int _ _) ?_ (.one (.flat (.i _ _)))
    simp only [execOp, ho, vrep_int hx]
    exact run_v rfl
  · obtain ⟨v, hv, hr⟩ := bit_sound (P := C.E.P) (w := w) h
    refine PureOk.of (v := v) ?_ (.one (.flat (hr _ _)))
    simp only [execOp, ho, vrep_int hx]
    exact run_v hv
  · simp only [Option.some.injEq] at h; subst h
    refine PureOk.of (v := .bool _) ?_ (.one (.flat (.b _)))
    simp only [execOp, ho, vrep_bool hx]
    exact run_v rfl
  · cases h

theorem p_conv (R : Rel C A K S a w) {s d : TypeId} {k k0 : IntKind} {x : Operand} (ho : o.op = .convert s d x) (hs : C.E.P.underlying s = some (.int k0)) (hd : C.E.P.underlying d = some (.int k))
    (h : pureV (evalO S.s) (.conv k x) = some r) : PureOk C A K S a w o r := by
  have hx := R.eval x
  simp only [pureV] at h
  split at h <;> first | (cases h; done) | skip
  rename_i hX
  rw [hX] at hx
  simp only [Option.some.injEq] at h; subst h
  refine PureOk.of (v := .int _ _) ?_ (.one (.flat (.i _ _)))
  simp only [execOp, ho, vrep_int hx]
  refine run_v ?_
  simp only [Go.convert, Sem.run_bind, run_underlying hs, run_underlying hd, Result.andThen_ok]
  rfl

theorem p_move (R : Rel C A K S a w) {x : Operand} (ho : o.op = .move x ∨ o.op = .assign x) (h : some (evalO S.s x) = some r) : PureOk C A K S a w o r := by
  cases h
  refine PureOk.of (v := a.eval x) ?_ (R.eval x)
  rcases ho with ho | ho <;> (simp only [execOp, ho]; rfl)

theorem p_pick (R : Rel C A K S a w) {c x y : Operand} (ho : o.op = .pick c x y) (h : pureV (evalO S.s) (.pick c x y) = some r) : PureOk C A K S a w o r := by
  have hc := R.eval c
  simp only [pureV] at h
  split at h <;> first | (cases h; done) | skip
  rename_i t hX
  rw [hX] at hc
  cases h
  refine PureOk.of (v := if t then a.eval x else a.eval y) ?_ (by cases t <;> simp [R.eval])
  simp only [execOp, ho, vrep_bool hc]
  rfl

theorem p_addr (R : Rel C A K S a w) {s : TypeId} {fs : Array Field} {f : Nat} {fd : Field} {n : Nat} {x : Operand} (ho : o.op = .fieldAddr s x f) (hs : C.E.P.underlying s = some (.struct fs)) (hf : fs[f]? = some fd)
    (hz : sizeOfT C.E.P fd.type = some (n + 1)) (h : pureV (evalO S.s) (.addr fd.offset x) = some r) : PureOk C A K S a w o r := by
  have hx := R.eval x
  obtain ⟨i, hi, hin⟩ : ∃ i, C.E.P.info? fd.type = some i ∧ i.size = n + 1 := by
    unfold sizeOfT at hz
    cases hi : C.E.P.info? fd.type with
    | none => simp [hi] at hz
    | some i => exact ⟨i, rfl, by simpa [hi] using hz⟩
  have run : ∀ b off, (Instr.fieldAt s (.pointer (some ⟨b, off, none⟩)) f).run C.E.P w = .ok (.pointer (some ⟨b, off + fd.offset, none⟩)) w := fun b off => by
    simp [Instr.fieldAt, run_underlying hs, hf, Instr.sureAddr, fieldPlace, Go.sizeOf, typeInfo, hi, hin, Addr.add_mid]
  simp only [pureV] at h
  split at h <;> first | (cases h; done) | skip
  · rename_i d off hX
    rw [hX] at hx
    cases h
    refine PureOk.of (v := .pointer (some ⟨A d, off + fd.offset, none⟩)) ?_ (.one (.rf _ _))
    simp only [execOp, ho, vrep_rf hx]
    exact run_v (run _ _)
  · rename_i cs off hX
    rw [hX] at hx
    cases h
    obtain ⟨blk, o', g, hv, hN, hc, h1⟩ := vrep_el hx
    refine PureOk.of (v := .pointer (some ⟨blk, o' + (off + fd.offset), none⟩)) ?_ (.one (.el cs _ blk o' g hN hc h1))
    simp only [execOp, ho, hv]
    rw [← Nat.add_assoc]
    exact run_v (run _ _)

theorem size_info {P : Program} {t : TypeId} {n : Nat} (h : sizeOfT P t = some n) : ∃ i, P.info? t = some i ∧ i.size = n := by
  unfold sizeOfT at h
  cases hi : P.info? t with
  | none => simp [hi] at h
  | some i => exact ⟨i, rfl, by simpa [hi] using h⟩
theorem bytes_info {P : Program} {t : TypeId} {n : Nat} (h : bytesOfT P t = some n) : ∃ i, P.info? t = some i ∧ i.bytes = n := by
  unfold bytesOfT at h
  cases hi : P.info? t with
  | none => simp [hi] at h
  | some i => exact ⟨i, rfl, by simpa [hi] using h⟩
theorem zero_info {P : Program} {t : TypeId} {v : Value} (h : zeroOfT P t = some v) : ∃ i, P.info? t = some i ∧ i.zero = some v := by
  unfold zeroOfT at h
  cases hi : P.info? t with
  | none => simp [hi] at h
  | some i => exact ⟨i, rfl, by simpa [hi] using h⟩

theorem p_ixA (R : Rel C A K S a w) {t e : TypeId} {len sz : Nat} {x i : Operand} (ho : o.op = .indexAddr t x i) (ht : C.E.P.underlying t = some (.array len e)) (hz : sizeOfT C.E.P e = some sz)
    (h : pureV (evalO S.s) (.ixA len sz x i) = some r) : PureOk C A K S a w o r := by
  have hx := R.eval x
  have hi := R.eval i
  obtain ⟨inf, h1, h2⟩ := size_info hz
  simp only [pureV] at h
  split at h <;> first | (cases h; done) | skip
  rename_i k j hI
  rw [hI] at hi
  cases hb : (decide (0 ≤ j) && decide (j < (len : Int)))
  · simp [hb] at h
  · simp only [hb, cond_true] at h
    simp only [Bool.and_eq_true, decide_eq_true_eq] at hb
    have run : ∀ b off, (Instr.indexAt t (.pointer (some ⟨b, off, none⟩)) (.int k j)).run C.E.P w = .ok (.pointer (some ⟨b, off + j.toNat * sz, none⟩)) w := fun b off => by
      simp [Instr.indexAt, asIntOf, run_underlying ht, Instr.sureAddr, Go.sizeOf, typeInfo, h1, h2, hb, Addr.add_mid]
    split at h <;> first | (cases h; done) | skip
    · rename_i d off hX
      rw [hX] at hx
      cases h
      refine PureOk.of (v := .pointer (some ⟨A d, off + j.toNat * sz, none⟩)) ?_ (.one (.rf _ _))
      simp only [execOp, ho, vrep_rf hx, vrep_int hi]
      exact run_v (run _ _)
    · rename_i cs off hX
      rw [hX] at hx
      cases h
      obtain ⟨blk, o', g, hv, hN, hc, h1⟩ := vrep_el hx
      refine PureOk.of (v := .pointer (some ⟨blk, o' + (off + j.toNat * sz), none⟩)) ?_ (.one (.el cs _ blk o' g hN hc h1))
      simp only [execOp, ho, hv, vrep_int hi]
      rw [← Nat.add_assoc]
      exact run_v (run _ _)

theorem p_ixS (R : Rel C A K S a w) {t e : TypeId} {sz : Nat} {x i : Operand} (ho : o.op = .indexAddr t x i) (ht : C.E.P.underlying t = some (.slice e)) (hz : sizeOfT C.E.P e = some (sz + 1))
    (h : pureV (evalO S.s) (.ixS (sz + 1) x i) = some r) : PureOk C A K S a w o r := by
  have hx := R.eval x
  have hi := R.eval i
  obtain ⟨inf, h1, h2⟩ := size_info hz
  simp only [pureV] at h
  split at h <;> first | (cases h; done) | skip
  rename_i k j hI
  rw [hI] at hi
  have run : ∀ b off n c, 0 ≤ j → j < (n : Nat) → (Instr.indexAt t (.slice (some ⟨b, off, none⟩) n c) (.int k j)).run C.E.P w = .ok (.pointer (some ⟨b, off + j.toNat * (sz + 1), none⟩)) w := fun b off n c p q => by
    simp [Instr.indexAt, asIntOf, run_underlying ht, Go.sizeOf, typeInfo, h1, h2, p, q, Addr.add_mid]
  split at h <;> first | (cases h; done) | skip
  · rename_i cs n hX
    rw [hX] at hx
    cases hb : (Nat.blt (j.toNat * (sz + 1)) cs.length && (decide (0 ≤ j) && decide (j < (n : Int))))
    · simp [hb] at h
    · simp only [hb, cond_true] at h
      simp only [Bool.and_eq_true, decide_eq_true_eq, Nat.blt_eq] at hb
      cases h
      obtain ⟨hlt, hb⟩ := hb
      obtain ⟨base, c, g, hv, hn, h0, h3⟩ := vrep_sl hx
      rcases h0 with rfl | ⟨blk, off, rfl, hN, hc⟩
      · simp at hlt
      · refine PureOk.of (v := .pointer (some ⟨blk, off + j.toNat * (sz + 1), none⟩)) ?_ (.one (.el cs _ blk off g hN hc h3))
        simp only [execOp, ho, hv, vrep_int hi]
        exact run_v (run _ _ _ _ hb.1 hb.2)
  · rename_i d off n sz' hX
    rw [hX] at hx
    cases hb : (Nat.beq (sz + 1) sz' && (decide (0 ≤ j) && decide (j < (n : Int))))
    · simp [hb] at h
    · simp only [hb, cond_true] at h
      simp only [Bool.and_eq_true, decide_eq_true_eq, Nat.beq_eq] at hb
      cases h
      obtain ⟨rfl, hb⟩ := hb
      obtain ⟨base, c, hv, hnp, hn, hk, hb0⟩ := vrep_rs hx
      have hK : 0 < K d := by
        have : 0 < c := by omega
        have : 1 * 1 ≤ c * (sz + 1) := Nat.mul_le_mul this (by omega)
        omega
      have := hb0 hK; subst this
      refine PureOk.of (v := .pointer (some ⟨A d, off + j.toNat * (sz + 1), none⟩)) ?_ (.one (.rf _ _))
      simp only [execOp, ho, hv, vrep_int hi]
      exact run_v (run _ _ _ _ hb.1 hb.2)


theorem p_fld (R : Rel C A K S a w) {t : TypeId} {fs : Array Field} {f : Nat} {fd : Field} {m : Option Nat} {x : Operand} (ho : o.op = .field t x f) (hs : C.E.P.underlying t = some (.struct fs)) (hf : fs[f]? = some fd)
    (hm : aggOfT C.E.P fd.type = some m) (h : pureV (evalO S.s) (.fld fd.offset m x) = some r) : PureOk C A K S a w o r := by
  have hx := R.eval x
  simp only [pureV] at h
  split at h <;> first | (cases h; done) | skip
  · rename_i cs hX
    rw [hX] at hx
    obtain ⟨l, hv, hr⟩ := vrep_agL hx
    obtain ⟨v, h1, h2⟩ := part_sound (np := C.np) (A := A) (K := K) hm hr h
    refine PureOk.of (v := v) ?_ h2
    simp only [execOp, ho, hv]
    refine run_v ?_
    simp [Instr.field, run_underlying hs, hf, asAgg, h1]
  · rename_i cs hX
    rw [hX] at hx
    cases ha : allQ cs
    · simp [ha] at h
    · simp only [ha, cond_true] at h
      obtain ⟨l, hv, hr⟩ := vrep_aqL (allQ_of ha) hx
      obtain ⟨v, h1, h2⟩ := partQ_sound hm hr h
      refine PureOk.of (v := v) ?_ h2
      simp only [execOp, ho, hv]
      refine run_v ?_
      simp [Instr.field, run_underlying hs, hf, asAgg, h1]

theorem p_ixV (R : Rel C A K S a w) {t e : TypeId} {len sz : Nat} {m : Option Nat} {x i : Operand} (ho : o.op = .index t x i) (ht : C.E.P.underlying t = some (.array len e)) (hz : sizeOfT C.E.P e = some sz)
    (hm : aggOfT C.E.P e = some m) (h : pureV (evalO S.s) (.ixV len sz m x i) = some r) : PureOk C A K S a w o r := by
  have hx := R.eval x
  have hi := R.eval i
  obtain ⟨inf, h1, h2⟩ := size_info hz
  simp only [pureV] at h
  split at h <;> first | (cases h; done) | skip
  rename_i k j hI
  rw [hI] at hi
  cases hb : (decide (0 ≤ j) && decide (j < (len : Int)))
  · simp [hb] at h
  · simp only [hb, cond_true] at h
    simp only [Bool.and_eq_true, decide_eq_true_eq] at hb
    split at h <;> first | (cases h; done) | skip
    rename_i cs hX
    rw [hX] at hx
    obtain ⟨l, hv, hr⟩ := vrep_agL hx
    obtain ⟨v, h3, h4⟩ := part_sound (np := C.np) (A := A) (K := K) hm hr h
    refine PureOk.of (v := v) ?_ h4
    simp only [execOp, ho, hv, vrep_int hi]
    refine run_v ?_
    simp [Instr.index, asIntOf, run_underlying ht, Go.sizeOf, typeInfo, h1, h2, hb, h3]

theorem p_ixStr (R : Rel C A K S a w) {t : TypeId} {x i : Operand} (ho : o.op = .index t x i) (ht : C.E.P.underlying t = some .string) (h : pureV (evalO S.s) (.ixStr x i) = some r) : PureOk C A K S a w o r := by
  have hx := R.eval x
  have hi := R.eval i
  simp only [pureV] at h
  split at h <;> first | (cases h; done) | skip
  rename_i k j hI
  rw [hI] at hi
  split at h <;> first | (cases h; done) | skip
  rename_i s hX
  rw [hX] at hx
  by_cases hj : 0 ≤ j
  · simp only [hj, decide_true, cond_true] at h
    split at h <;> first | (cases h; done) | skip
    rename_i c hc
    cases h
    refine PureOk.of (v := .int .u8 c.toNat) ?_ (.one (.flat (.i _ _)))
    simp only [execOp, ho, vrep_str hx, vrep_int hi]
    refine run_v ?_
    simp [Instr.index, asIntOf, run_underlying ht, hj, hc]
  · simp [hj] at h

theorem p_ext (R : Rel C A K S a w) {x : Operand} {j : Nat} (ho : o.op = .extract x j) (h : pureV (evalO S.s) (.ext j x) = some r) : PureOk C A K S a w o r := by
  have hx := R.eval x
  simp only [pureV] at h
  split at h <;> first | (cases h; done) | skip
  rename_i l hX
  rw [hX] at hx
  obtain ⟨vs, hv, hl, hr⟩ := vrep_tp hx
  obtain ⟨hj, rfl⟩ := List.getElem?_eq_some_iff.1 h
  refine PureOk.of (v := vs[j]'(by omega)) ?_ (.one (hr j hj (by omega)))
  simp only [execOp, ho, hv]
  refine run_v ?_
  simp [Instr.extract, List.getElem?_eq_getElem (show j < vs.length by omega)]

theorem run_typeInfo {P : Program} {t : TypeId} {i : TypeInfo} (h : P.info? t = some i) (w : World) : (typeInfo t).run P w = .ok i w := by
  simp [typeInfo, program, Sem.run, h]

theorem run_zeroValue {P : Program} {t : TypeId} {v : Value} (h : zeroOfT P t = some v) (w : World) : (zeroValue t).run P w = .ok v w := by
  obtain ⟨i, hi, hz⟩ := zero_info h
  simp [zeroValue, typeInfo, program, Sem.run, hi, hz]

theorem zero_cells {v : Value} {zs : List AV} (h : zeroCellsOf v = some zs) {E : Env} {N : Nat → Prop} {w : World} : RepL E w N zs v.cells.toList := by
  unfold zeroCellsOf at h
  cases hb : v.cells.toList.all flatConst
  · simp [hb] at h
  · simp only [hb, cond_true, Option.some.injEq] at h
    subst h
    exact RepL.consts hb

theorem structParts_of {P : Program} {fs : Array Field} : ∀ {l : List (Nat × Operand)} {ps : List (Nat × Nat × Operand)}, structParts P fs l = some ps →
    ps.length = l.length ∧ ∀ j (h1 : j < ps.length) (h2 : j < l.length), (∃ f, fs[(l[j]).1]? = some f ∧ f.offset = (ps[j]).1 ∧ sizeOfT P f.type = some (ps[j]).2.1) ∧ (ps[j]).2.2 = (l[j]).2
  | [], ps, h => by simp only [structParts, Option.some.injEq] at h; subst h; exact ⟨rfl, fun j h1 => by simp at h1⟩
  | (i, x) :: l, ps, h => by
    simp only [structParts] at h
    cases hf : fs[i]? with
    | none => simp [hf] at h
    | some f =>
      simp only [hf] at h
      cases hs : sizeOfT P f.type with
      | none => simp [hs] at h
      | some sz =>
        cases hr : structParts P fs l with
        | none => simp [hs, hr] at h
        | some qs =>
          simp only [hs, hr, Option.some.injEq] at h
          subst h
          obtain ⟨h1, h2⟩ := structParts_of hr
          refine ⟨by simp [h1], fun j p q => ?_⟩
          cases j with
          | zero => exact ⟨⟨f, hf, rfl, hs⟩, rfl⟩
          | succ j => exact h2 j (by simpa using p) (by simpa using q)

theorem rowParts_of {sz : Nat} : ∀ (l : List (Nat × Operand)), (rowParts sz l).length = l.length ∧ ∀ j (h1 : j < (rowParts sz l).length) (h2 : j < l.length), ((rowParts sz l)[j]).1 = (l[j]).1 * sz ∧ ((rowParts sz l)[j]).2.1 = sz ∧ ((rowParts sz l)[j]).2.2 = (l[j]).2
  | [] => ⟨rfl, fun j h1 => by simp [rowParts] at h1⟩
  | (i, x) :: l => by
    obtain ⟨h1, h2⟩ := rowParts_of (sz := sz) l
    refine ⟨by simp [rowParts, h1], fun j p q => ?_⟩
    cases j with
    | zero => exact ⟨rfl, rfl, rfl⟩
    | succ j => exact h2 j (by simpa [rowParts] using p) (by simpa using q)

theorem run_places {P : Program} : ∀ (l : List Field), (l.all fun f => (sizeOfT P f.type).isSome) = true → ∃ ps : List (Nat × Nat), (l.mapM fun f => (do pure (f.offset, ← Go.sizeOf f.type) : Sem (Nat × Nat))).run P w = .ok ps w ∧
    ∀ (j : Nat) (f : Field), l[j]? = some f → ps[j]? = some (f.offset, (sizeOfT P f.type).getD 0)
  | [], _ => ⟨[], by simp, fun j f h => by simp at h⟩
  | f :: l, h => by
    simp only [List.all_cons, Bool.and_eq_true] at h
    obtain ⟨ps, h1, h2⟩ := run_places l h.2
    obtain ⟨n, hn⟩ := Option.isSome_iff_exists.1 h.1
    obtain ⟨i, hi, hz⟩ := size_info hn
    refine ⟨(f.offset, n) :: ps, ?_, fun j g hg => ?_⟩
    · rw [List.mapM_cons]
      simp [Go.sizeOf, typeInfo, hi, hz] at h1 ⊢
      simp [h1]
    · cases j with
      | zero => simp only [List.getElem?_cons_zero, Option.some.injEq] at hg ⊢; subst hg; simp [hn]
      | succ j => simpa using h2 j g (by simpa using hg)

theorem p_buildStruct (R : Rel C A K S a w) {t : TypeId} {fs : Array Field} {parts : Array (Nat × Operand)} {zs : List AV} {ps : List (Nat × Nat × Operand)} {v0 : Value} (ho : o.op = .build t parts)
    (hs : C.E.P.underlying t = some (.struct fs)) (hz0 : zeroOfT C.E.P t = some v0) (hall : (fs.toList.all fun f => (sizeOfT C.E.P f.type).isSome) = true) (hz : zeroCellsOf v0 = some zs) (hp : structParts C.E.P fs parts.toList = some ps)
    (h : pureV (evalO S.s) (.build zs ps) = some r) : PureOk C A K S a w o r := by
  simp only [pureV] at h
  cases hf : fillV (evalO S.s) ps zs with
  | none => simp [hf] at h
  | some cs =>
    simp only [hf, Option.some.injEq] at h
    subst h
    obtain ⟨i, hi, hiz⟩ := zero_info hz0
    obtain ⟨places, hpl, hpl2⟩ := run_places (w := w) fs.toList hall
    obtain ⟨q1, q2⟩ := structParts_of hp
    obtain ⟨l', hl', hr⟩ := fill_sound (np := C.np) (A := A) (K := K) (place := (places.toArray[·]?)) (ρ := evalO S.s) (ev := a.eval) (fun x => R.eval x) parts.toList ps ⟨q1, fun j h1 h2 => by
      obtain ⟨⟨f, hf1, hf2, hf3⟩, hf4⟩ := q2 j h1 h2
      refine ⟨?_, hf4⟩
      have := hpl2 _ f (by simpa using hf1)
      simp [this, hf2, hf3]⟩ (zero_cells hz) hf
    refine PureOk.of (v := .agg l'.toArray) ?_ (VRep.agL hr)
    simp only [execOp, ho]
    refine run_v ?_
    have hmapM : (fs.mapM fun f => (do pure (f.offset, ← Go.sizeOf f.type) : Sem (Nat × Nat))).run C.E.P w = .ok places.toArray w := by
      rw [← Array.toArray_toList (xs := fs)] 
      rw [List.mapM_toArray]
      simp only [Sem.run_map, hpl, Result.andThen_ok]
    have hz' := run_zeroValue hz0 w
    simp only [Instr.build, Sem.run_bind, hz', Result.andThen_ok, run_underlying hs, hmapM]
    simp only [Array.toList_map, Array.toArray_toList] at hl' ⊢
    rw [hl']; rfl

theorem p_buildArr (R : Rel C A K S a w) {t e : TypeId} {len sz : Nat} {parts : Array (Nat × Operand)} {zs : List AV} {v0 : Value} (ho : o.op = .build t parts)
    (hs : C.E.P.underlying t = some (.array len e)) (hz0 : zeroOfT C.E.P t = some v0) (hsz : sizeOfT C.E.P e = some sz) (hz : zeroCellsOf v0 = some zs)
    (h : pureV (evalO S.s) (.build zs (rowParts sz parts.toList)) = some r) : PureOk C A K S a w o r := by
  simp only [pureV] at h
  cases hf : fillV (evalO S.s) (rowParts sz parts.toList) zs with
  | none => simp [hf] at h
  | some cs =>
    simp only [hf, Option.some.injEq] at h
    subst h
    obtain ⟨i, hi, hiz⟩ := size_info hsz
    obtain ⟨q1, q2⟩ := rowParts_of (sz := sz) parts.toList
    obtain ⟨l', hl', hr⟩ := fill_sound (np := C.np) (A := A) (K := K) (place := fun i => some (i * sz, sz)) (ρ := evalO S.s) (ev := a.eval) (fun x => R.eval x) parts.toList _ ⟨q1, fun j h1 h2 => by
      obtain ⟨e1, e2, e3⟩ := q2 j h1 h2
      exact ⟨by simp [e1, e2], e3⟩⟩ (zero_cells hz) hf
    refine PureOk.of (v := .agg l'.toArray) ?_ (VRep.agL hr)
    simp only [execOp, ho]
    refine run_v ?_
    have hz' := run_zeroValue hz0 w
    simp only [Instr.build, Sem.run_bind, hz', Result.andThen_ok, run_underlying hs, Go.sizeOf, typeInfo, program, Sem.run]
    simp only [hi, Sem.run_pure, Result.andThen_ok, hiz]
    simp only [Array.toList_map, Array.toArray_toList] at hl' ⊢
    rw [hl']; rfl

theorem isSliceT_of {P : Program} {t e : TypeId} (h : isSliceT P t = some e) : P.underlying t = some (.slice e) := by
  unfold isSliceT at h
  split at h
  · rename_i hh; simp only [Option.some.injEq] at h; subst h; exact hh
  · cases h

/-- New cells, never to be written: a slice by value. -/
theorem newSl (R : Rel C A K S a w) {cs : List AV} {l ext : List Value} {e : TypeId} {n c : Nat} (hn : n ≤ c) (hr : RepL C.E w (Still C A K S.l w) cs l) :
    VRep C.E C.np (w.alloc (.cells (l ++ ext).toArray e)) (Still C A K S.l (w.alloc (.cells (l ++ ext).toArray e))) A K (.sl cs n) (.slice (some ⟨w.heap.size, 0, none⟩) n c) := by
  have G := Grew.alloc w (.cells (l ++ ext).toArray e)
  have hr' := hr.mono (w' := w.alloc (.cells (l ++ ext).toArray e)) (N' := Still C A K S.l (w.alloc (.cells (l ++ ext).toArray e))) (fun b hb => hb.grew G.size) (fun b hb => G.block b hb.1)
  refine .one (.flat (.sl cs n _ c (fun j => l.getD j undef) hn (.inr ⟨w.heap.size, 0, rfl, R.still_new _, fun j hj => ?_⟩) fun j hj => ?_))
  · have hj' : j < l.length := by rw [← hr.1]; exact hj
    rw [World.cell?_alloc_new]
    simp [List.getElem?_append_left hj', List.getElem?_eq_getElem hj']
  · have hj' : j < l.length := by rw [← hr.1]; exact hj
    have := hr'.2 j hj hj'
    simpa [List.getElem?_eq_getElem hj'] using this

theorem range_rep (z : Array Value) (hz : 0 < z.size) (n : Nat) : ((Array.range (n * z.size)).map (z[· % z.size]!)).toList = (List.replicate n z.toList).flatten := by
  apply List.ext_getElem?
  intro j
  have hlen : (List.replicate n z.toList).flatten.length = n * z.size := by simp
  by_cases hj : j < n * z.size
  · have hj2 : j < (List.replicate n z.toList).flatten.length := by rw [hlen]; exact hj
    have hm : j % z.size < z.size := Nat.mod_lt _ hz
    have key : ∀ (n j : Nat), j < n * z.size → (List.replicate n z.toList).flatten[j]? = z[j % z.size]? := by
      intro n
      induction n with
      | zero => intro j hj; simp at hj
      | succ n ih =>
        intro j hj
        rw [List.replicate_succ, List.flatten_cons]
        by_cases h : j < z.size
        · rw [List.getElem?_append_left (by simpa using h), Nat.mod_eq_of_lt h]; simp
        · rw [List.getElem?_append_right (by simpa using Nat.le_of_not_lt h)]
          simp only [Array.length_toList]
          rw [ih (j - z.size) (by rw [Nat.succ_mul] at hj; omega)]
          congr 1
          rw [Nat.mod_eq_sub_mod (Nat.le_of_not_lt h)]
    rw [key n j hj]
    simp [hj, hm, getElem!_pos]
  · rw [List.getElem?_eq_none (by simp; omega), List.getElem?_eq_none (by rw [hlen]; omega)]

theorem p_bsl (R : Rel C A K S a w) {t e : TypeId} {n sz : Nat} {parts : Array (Nat × Operand)} {zs : List AV} (ho : o.op = .buildSlice t n parts)
    (ht : C.E.P.underlying t = some (.slice e)) (hsz : sizeOfT C.E.P e = some (sz + 1)) (hz : (zeroOfT C.E.P e).bind zeroCellsOf = some zs) (hzl : zs.length = sz + 1) (hle : n * (sz + 1) ≤ 16777216) {cs : List AV}
    (hf : fillV (evalO S.s) (rowParts (sz + 1) parts.toList) (zrep zs n) = some cs) :
    ∃ l' : List Value, RepL C.E w (Still C A K S.l w) cs l' ∧ (execOp a.eval o).run C.E.P w = .ok (.value (.slice (some ⟨w.heap.size, 0, none⟩) n n)) (w.alloc (.cells l'.toArray e)) := by
  cases hz0 : zeroOfT C.E.P e with
  | none => simp [hz0] at hz
  | some v0 =>
    simp only [hz0, Option.bind_some] at hz
    obtain ⟨i, hi, hiz⟩ := size_info hsz
    have hrz := zero_cells (E := C.E) (N := Still C A K S.l w) (w := w) hz
    have hvsz : v0.cells.size = sz + 1 := by have := hrz.1; simp at this; omega
    obtain ⟨q1, q2⟩ := rowParts_of (sz := sz + 1) parts.toList
    obtain ⟨l', hl', hr⟩ := fill_sound (np := C.np) (A := A) (K := K) (place := fun i => some (i * (sz + 1), sz + 1)) (ρ := evalO S.s) (ev := a.eval) (fun x => R.eval x) parts.toList _ ⟨q1, fun j h1 h2 => by
      obtain ⟨e1, e2, e3⟩ := q2 j h1 h2
      exact ⟨by simp [e1, e2], e3⟩⟩ (hrz.flatten_rep n) hf
    refine ⟨l', hr, ?_⟩
    simp only [execOp, ho]
    refine run_v ?_
    have hzr := range_rep v0.cells (by omega) n
    rw [hvsz] at hzr
    by_cases hn : n = 0
    · subst hn
      have hz1 : (List.replicate 0 v0.cells.toList).flatten = [] := rfl
      rw [hz1] at hl'
      have hr0 : (Array.map (fun x => (default : Value)) (Array.range 0)) = #[] := by simp
      simp only [Instr.buildSlice, Sem.run_bind, run_underlying ht, Result.andThen_ok, Go.sizeOf, run_typeInfo hi, Sem.run_pure, hiz]
      rw [if_neg (by omega)]
      simp only [Sem.run_bind, Nat.zero_mul, if_true, Result.andThen_ok, Sem.run_pure, run_typeInfo hi, hiz]
      rw [show (Array.map (fun x => (x.fst, a.eval x.snd)) parts).toList = parts.toList.map fun p => (p.1, a.eval p.2) by simp]
      rw [show (Array.map (fun x => (#[] : Array Value)[x % (#[] : Array Value).size]!) (Array.range 0)) = #[] by simp, hl']
      simp [newRow, newObj, Sem.run, World.alloc_eq]
    · have hz' := run_zeroValue hz0 w
      have : ¬ (16777216 < n * (sz + 1)) := by omega
      have hne : ¬ (n * (sz + 1) = 0) := by
        intro h0
        rcases Nat.mul_eq_zero.1 h0 with h0 | h0 <;> omega
      have hl2 : Instr.fill (fun i => some (i * (sz + 1), sz + 1)) ((Array.range (n * (sz + 1))).map (v0.cells[· % v0.cells.size]!)) (parts.toList.map fun p => (p.1, a.eval p.2)) = some l'.toArray := by
        rw [← hl', ← hzr]
        simp only [hvsz, Array.toArray_toList]
      simp only [Instr.buildSlice, Sem.run_bind, run_underlying ht, Result.andThen_ok, Go.sizeOf, run_typeInfo hi, Sem.run_pure, hiz]
      rw [if_neg (by omega)]
      simp only [Sem.run_bind, if_neg hne, hz', Result.andThen_ok, Sem.run_pure]
      rw [show (Array.map (fun x => (x.fst, a.eval x.snd)) parts).toList = parts.toList.map fun p => (p.1, a.eval p.2) by simp]
      rw [hl2]
      simp [newRow, newObj, Sem.run, World.alloc_eq]

end
end Zab

namespace Zab
open Go
set_option linter.unusedSimpArgs false
set_option linter.unusedVariables false

section
variable {C : Ctx} {A K : Nat → Nat} {S : St} {a : Act} {w : World} {o : Oper} {r : AV}

theorem wrap_small {n : Int} (h0 : 0 ≤ n) (h1 : n ≤ 9223372036854775807) : IntKind.i64.wrap n = n := by
  unfold IntKind.wrap IntKind.bits IntKind.signed
  have e : n % (2 ^ 64 : Int) = n := Int.emod_eq_of_lt h0 (by omega)
  simp only [e]
  rw [if_neg]
  simp only [Bool.true_and, decide_eq_true_eq]
  have : (2 ^ (64 - 1) : Int) = 9223372036854775808 := by decide
  rw [this]; omega

theorem run_mk {P : Program} {t e : TypeId} {sz b : Nat} {v0 : Value} {n m : Nat} (ht : P.underlying t = some (.slice e)) (hsz : sizeOfT P e = some (sz + 1)) (hb : bytesOfT P e = some (b + 1)) (hz0 : zeroOfT P e = some v0)
    (hvsz : v0.cells.size = sz + 1) (hnm : n ≤ m) (hm : m * (b + 1) ≤ 140737488355328) (w : World) :
    (Instr.makeSlice t (.int .i64 n) (.int .i64 m)).run P w = .ok (.slice (some ⟨w.heap.size, 0, none⟩) n m) (w.alloc (.cells (List.replicate m v0.cells.toList).flatten.toArray e)) := by
  obtain ⟨i, hi, hiz⟩ := size_info hsz
  obtain ⟨i', hi', hib⟩ := bytes_info hb
  rw [hi] at hi'; cases hi'
  have hm0 : m * 1 ≤ m * (b + 1) := Nat.mul_le_mul_left m (by omega)
  have w1 : IntKind.i64.wrap (n : Int) = n := wrap_small (by omega) (by omega)
  have w2 : IntKind.i64.wrap (m : Int) = m := wrap_small (by omega) (by omega)
  have hbig : ¬ ((((b + 1 : Nat) : Int) * (m : Int) > 2 ^ 48)) := by
    have : ((b + 1 : Nat) : Int) * (m : Int) = ((m * (b + 1) : Nat) : Int) := by push_cast; rw [Int.mul_comm]
    rw [this]; omega
  have hcond : (decide (((m : Int) < 0)) || decide ((((b + 1 : Nat) : Int) * (m : Int) > 2 ^ 48)) || decide (((n : Int) < 0)) || decide ((n : Int) > (m : Int))) = false := by
    simp only [Bool.or_eq_false_iff, decide_eq_false_iff_not]
    exact ⟨⟨⟨by omega, hbig⟩, by omega⟩, by omega⟩
  have hzr := range_rep v0.cells (by omega) m
  rw [hvsz] at hzr
  simp only [Instr.makeSlice, Sem.run_bind, run_underlying ht, Result.andThen_ok, asInt, asIntOf, Sem.run_pure, run_typeInfo hi, w1, w2, hib]
  rw [if_neg (by simpa using hcond)]
  simp only [Sem.run_bind, run_askRoom, Result.andThen_ok, Go.sizeOf, run_typeInfo hi, Sem.run_pure, hiz, Int.toNat_natCast]
  by_cases hm' : m = 0
  · subst hm'
    have e0 : (Array.map (fun x => (#[] : Array Value)[x % (#[] : Array Value).size]!) (Array.range 0)) = #[] := by simp
    simp only [Nat.zero_mul, if_true, Sem.run_bind, Sem.run_pure, Result.andThen_ok, e0]
    simp [newRow, newObj, Sem.run, World.alloc_eq]
  · have hne : ¬ (m * (sz + 1) = 0) := by
      intro h0
      rcases Nat.mul_eq_zero.1 h0 with h0 | h0 <;> omega
    simp only [if_neg hne, Sem.run_bind, run_zeroValue hz0, Result.andThen_ok, Sem.run_pure]
    have : ((Array.range (m * (sz + 1))).map (v0.cells[· % v0.cells.size]!)) = (List.replicate m v0.cells.toList).flatten.toArray := by
      rw [← hzr]; simp only [hvsz, Array.toArray_toList]
    rw [this]
    simp [newRow, newObj, Sem.run, World.alloc_eq]

theorem p_mkS (R : Rel C A K S a w) {t e : TypeId} {sz b : Nat} {zs : List AV} {l c : Operand} (ho : o.op = .makeSlice t l c) (ht : C.E.P.underlying t = some (.slice e)) (hsz : sizeOfT C.E.P e = some (sz + 1)) (hb : bytesOfT C.E.P e = some (b + 1))
    (hz : (zeroOfT C.E.P e).bind zeroCellsOf = some zs) (hzl : zs.length = sz + 1) (h : pureV (evalO S.s) (.mkS zs (b + 1) l c) = some r) : PureOk C A K S a w o r := by
  have hl := R.eval l
  have hc := R.eval c
  simp only [pureV] at h
  split at h <;> first | (cases h; done) | skip
  rename_i n m h1 h2
  rw [h1] at hl
  rw [h2] at hc
  cases hb' : (decide (0 ≤ n) && (decide (n = m) && decide (n.toNat * (b + 1) ≤ 140737488355328)))
  · simp [hb'] at h
  · simp only [hb', cond_true, Option.some.injEq] at h
    subst h
    simp only [Bool.and_eq_true, decide_eq_true_eq] at hb'
    obtain ⟨hn0, rfl, hle⟩ := hb'
    obtain ⟨n, rfl⟩ : ∃ k : Nat, n = k := ⟨n.toNat, by omega⟩
    simp only [Int.toNat_natCast] at hle ⊢
    cases hz0 : zeroOfT C.E.P e with
    | none => simp [hz0] at hz
    | some v0 =>
      simp only [hz0, Option.bind_some] at hz
      have hrz := zero_cells (E := C.E) (N := Still C A K S.l w) (w := w) hz
      have hvsz : v0.cells.size = sz + 1 := by have := hrz.1; simp at this; omega
      have hrep := hrz.flatten_rep n
      have hnew := newSl R (ext := []) (e := e) (Nat.le_refl n) hrep
      simp only [List.append_nil] at hnew
      refine ⟨_, _, ?_, Grew.alloc w _, hnew⟩
      simp only [execOp, ho, vrep_int hl, vrep_int hc]
      exact run_v (run_mk ht hsz hb hz0 hvsz (Nat.le_refl n) hle w)

theorem p_bslV (R : Rel C A K S a w) {t e : TypeId} {n sz : Nat} {parts : Array (Nat × Operand)} {zs : List AV} (ho : o.op = .buildSlice t n parts)
    (ht : C.E.P.underlying t = some (.slice e)) (hsz : sizeOfT C.E.P e = some (sz + 1)) (hz : (zeroOfT C.E.P e).bind zeroCellsOf = some zs) (hzl : zs.length = sz + 1) (hle : n * (sz + 1) ≤ 16777216)
    (h : pureV (evalO S.s) (.bsl n zs (rowParts (sz + 1) parts.toList)) = some r) : PureOk C A K S a w o r := by
  simp only [pureV] at h
  cases hf : fillV (evalO S.s) (rowParts (sz + 1) parts.toList) (zrep zs n) with
  | none => simp [hf] at h
  | some cs =>
    simp only [hf, Option.some.injEq] at h
    subst h
    obtain ⟨l', hr, hrun⟩ := p_bsl R ho ht hsz hz hzl hle hf
    have hnew := newSl R (ext := []) (e := e) (Nat.le_refl n) hr
    simp only [List.append_nil] at hnew
    exact ⟨_, _, hrun, Grew.alloc w _, hnew⟩

theorem evalL_len (ρ : Operand → AV) : ∀ l : List Operand, (evalL ρ l).length = l.length
  | [] => rfl
  | x :: r => by simp [evalL, evalL_len ρ r]
theorem evalL_get (ρ : Operand → AV) : ∀ (l : List Operand) (j : Nat) (h : j < (evalL ρ l).length), (evalL ρ l)[j] = ρ (l[j]'(by rw [← evalL_len ρ l]; exact h))
  | [], j, h => by simp [evalL] at h
  | x :: r, 0, h => rfl
  | x :: r, j + 1, h => by simpa [evalL] using evalL_get ρ r j (by simpa [evalL] using h)

theorem VRep.v1 {E : Env} {np : Nat} {w : World} {N : Nat → Prop} {A K : Nat → Nat} {x : AV} {v : Value} (h : VRep E np w N A K x v) (h1 : ∀ l, x ≠ .tp l) (h3 : ∀ l, x ≠ .aq l) (h2 : ∀ f c l, x ≠ .fn f (c :: l)) : V1 E np w N A K x v := by
  cases h with
  | one h => exact h
  | tp l vs hl h => exact absurd rfl (h1 l)
  | fn f l vs hl h =>
    cases l with
    | nil =>
      have : vs = [] := by cases vs <;> simp_all
      subst this; exact .fn f
    | cons c l => exact absurd rfl (h2 f c l)
  | aq l => exact absurd rfl (h3 l)

theorem allPlain_get : ∀ {l : List AV}, allPlain l = true → ∀ j (h : j < l.length), plain l[j] = true
  | [], _, j, h => by simp at h
  | x :: r, hp, j, h => by
    simp only [allPlain, Bool.and_eq_true] at hp
    cases j with
    | zero => exact hp.1
    | succ j => exact allPlain_get hp.2 j (by simpa using h)

theorem VRep.ofPlain {E : Env} {np : Nat} {w : World} {N : Nat → Prop} {A K : Nat → Nat} {x : AV} {v : Value} (h : VRep E np w N A K x v) (hp : plain x = true) : V1 E np w N A K x v :=
  h.v1 (fun l e => by subst e; cases hp) (fun l e => by subst e; cases hp) (fun f c l e => by subst e; cases hp)

theorem p_mkfn (R : Rel C A K S a w) {f : Nat} {first caps : Array Operand} (ho : o.op = .makeFunc (.func f) first caps) (hf : first.isEmpty = true)
    (h : pureV (evalO S.s) (.mkfn f caps.toList) = some r) : PureOk C A K S a w o r := by
  have : first = #[] := by simpa using hf
  subst this
  simp only [pureV] at h
  cases hpl : allPlain (evalL (evalO S.s) caps.toList)
  · simp [hpl] at h
  · simp only [hpl, cond_true] at h
    cases h
    refine PureOk.of (v := .func (.func f) #[] (caps.toList.map a.eval).toArray) ?_ (.fn f _ _ (by simp [evalL_len]) fun j h1 h2 => ?_)
    · simp only [execOp, ho]
      refine run_v ?_
      simp [Instr.makeFunc]
      apply Array.ext'
      simp
    · have := R.eval (caps.toList[j]'(by simpa [evalL_len] using h1))
      rw [evalL_get]
      simp only [List.getElem_map]
      refine this.ofPlain ?_
      rw [← evalL_get _ _ _ h1]
      exact allPlain_get hpl j h1

theorem run_builtin {P : Program} {c : Call} {bi : Builtin} (ho : o.op = .call c) (hcal : c.callee = .builtin bi) :
    execOp a.eval o = builtin bi c.argTypes o.type (c.args.map fun | .const _ => true | _ => false) (c.args.map a.eval) := by
  simp only [execOp, ho, resolve, hcal]
  rfl

theorem args_one {c : Call} {x : Operand} (h : c.args.toList = [x]) : c.args.map a.eval = #[a.eval x] := by
  rw [← Array.toArray_toList (xs := c.args), h]; simp

theorem p_len (R : Rel C A K S a w) {c : Call} {x : Operand} {t e : TypeId} (ho : o.op = .call c) (hcal : c.callee = .builtin .len) (hargs : c.args.toList = [x]) (h0 : c.argTypes[0]? = some t)
    (ht : C.E.P.underlying t = some (.slice e)) (h : pureV (evalO S.s) (.len false x) = some r) : PureOk C A K S a w o r := by
  have hx := R.eval x
  have hsl : ∀ base n c', a.eval x = .slice base n c' → (execOp a.eval o).run C.E.P w = .ok (.value (.int .i64 n)) w := by
    intro base n c' hv
    rw [run_builtin (P := C.E.P) ho hcal, args_one hargs, hv]
    simp only [builtin]
    refine run_v ?_
    simp [Builtin.len_, h0, run_underlying ht, goInt]
  simp only [pureV] at h
  split at h <;> first | (cases h; done) | skip
  · rename_i cs n hX
    rw [hX] at hx
    cases h
    obtain ⟨base, c', f, hv, _⟩ := vrep_sl hx
    exact PureOk.of (hsl _ _ _ hv) (.one (.flat (.i _ _)))
  · rename_i d o' n sz hX
    rw [hX] at hx
    cases h
    obtain ⟨base, c', hv, _⟩ := vrep_rs hx
    exact PureOk.of (hsl _ _ _ hv) (.one (.flat (.i _ _)))
  · rename_i hX
    rw [hX] at hx
    cases h
    have hv := vrep_z hx
    exact PureOk.of (hsl _ 0 _ hv) (.one (.flat (.i _ _)))

theorem p_lenS (R : Rel C A K S a w) {c : Call} {x : Operand} {t : TypeId} (ho : o.op = .call c) (hcal : c.callee = .builtin .len) (hargs : c.args.toList = [x]) (h0 : c.argTypes[0]? = some t)
    (ht : C.E.P.underlying t = some .string) (h : pureV (evalO S.s) (.len true x) = some r) : PureOk C A K S a w o r := by
  have hx := R.eval x
  simp only [pureV] at h
  split at h <;> first | (cases h; done) | skip
  rename_i s hX
  rw [hX] at hx
  cases h
  refine PureOk.of (v := .int .i64 s.size) ?_ (.one (.flat (.i _ _)))
  rw [run_builtin (P := C.E.P) ho hcal, args_one hargs, vrep_str hx]
  simp only [builtin]
  refine run_v ?_
  simp [Builtin.len_, h0, run_underlying ht, goInt]

theorem max_sound {P : Program} {np : Nat} {N : Nat → Prop} : ∀ (l : List AV) (vs : List Value) (x : AV) (v : Value), VRep C.E np w N A K x v → (l.length = vs.length ∧ ∀ j (h1 : j < l.length) (h2 : j < vs.length), VRep C.E np w N A K l[j] vs[j]) →
    maxV x l = some r → ∃ u, (vs.foldlM Builtin.max2 v).run P w = .ok u w ∧ VRep C.E np w N A K r u
  | [], [], x, v, hx, _, h => by cases h; exact ⟨v, by simp, hx⟩
  | [], _ :: _, _, _, _, hl, _ => by simp at hl
  | _ :: _, [], _, _, _, hl, _ => by simp at hl
  | y :: l, u :: vs, x, v, hx, hl, h => by
    have hy := hl.2 0 (by simp) (by simp)
    simp only [List.getElem_cons_zero] at hy
    have hrest : l.length = vs.length ∧ ∀ j (h1 : j < l.length) (h2 : j < vs.length), VRep C.E np w N A K l[j] vs[j] :=
      ⟨by simpa using hl.1, fun j h1 h2 => by have := hl.2 (j + 1) (by simpa using h1) (by simpa using h2); simpa using this⟩
    unfold maxV at h
    split at h <;> first | (cases h; done) | skip
    · rename_i hh; cases hh
    · rename_i k p k' c r' e1
      cases e1
      by_cases hk : k = k'
      · subst hk
        simp only [decide_true, cond_true] at h
        have e1 := vrep_int hx
        have e2 := vrep_int hy
        subst e1; subst e2
        obtain ⟨z, hz, hr⟩ := max_sound l vs _ (.int k (if c > p then c else p)) (.one (.flat (.i _ _))) hrest h
        refine ⟨z, ?_, hr⟩
        rw [List.foldlM_cons, Sem.run_bind]
        simp only [Builtin.max2, Sem.run_pure, Result.andThen_ok]
        exact hz
      · simp [hk] at h

theorem min_sound {P : Program} {np : Nat} {N : Nat → Prop} : ∀ (l : List AV) (vs : List Value) (x : AV) (v : Value), VRep C.E np w N A K x v → (l.length = vs.length ∧ ∀ j (h1 : j < l.length) (h2 : j < vs.length), VRep C.E np w N A K l[j] vs[j]) →
    minV x l = some r → ∃ u, (vs.foldlM Builtin.min2 v).run P w = .ok u w ∧ VRep C.E np w N A K r u
  | [], [], x, v, hx, _, h => by cases h; exact ⟨v, by simp, hx⟩
  | [], _ :: _, _, _, _, hl, _ => by simp at hl
  | _ :: _, [], _, _, _, hl, _ => by simp at hl
  | y :: l, u :: vs, x, v, hx, hl, h => by
    have hy := hl.2 0 (by simp) (by simp)
    simp only [List.getElem_cons_zero] at hy
    have hrest : l.length = vs.length ∧ ∀ j (h1 : j < l.length) (h2 : j < vs.length), VRep C.E np w N A K l[j] vs[j] :=
      ⟨by simpa using hl.1, fun j h1 h2 => by have := hl.2 (j + 1) (by simpa using h1) (by simpa using h2); simpa using this⟩
    unfold minV at h
    split at h <;> first | (cases h; done) | skip
    · rename_i hh; cases hh
    · rename_i k p k' c r' e1
      cases e1
      by_cases hk : k = k'
      · subst hk
        simp only [decide_true, cond_true] at h
        have e1 := vrep_int hx
        have e2 := vrep_int hy
        subst e1; subst e2
        obtain ⟨z, hz, hr⟩ := min_sound l vs _ (.int k (if c < p then c else p)) (.one (.flat (.i _ _))) hrest h
        refine ⟨z, ?_, hr⟩
        rw [List.foldlM_cons, Sem.run_bind]
        simp only [Builtin.min2, Sem.run_pure, Result.andThen_ok]
        exact hz
      · simp [hk] at h

theorem p_mx (R : Rel C A K S a w) {c : Call} (ho : o.op = .call c) (hcal : c.callee = .builtin .max) (h : pureV (evalO S.s) (.mx c.args.toList) = some r) : PureOk C A K S a w o r := by
  simp only [pureV] at h
  cases hl : c.args.toList with
  | nil => simp [hl, evalL] at h
  | cons x l =>
    simp only [hl, evalL] at h
    obtain ⟨u, hu, hr⟩ := max_sound (P := C.E.P) (np := C.np) (N := Still C A K S.l w) (evalL (evalO S.s) l) (l.map a.eval) _ _ (R.eval x)
      ⟨by simp [evalL_len], fun j h1 h2 => by rw [evalL_get]; simpa using R.eval _⟩ h
    refine PureOk.of (v := u) ?_ hr
    rw [run_builtin (P := C.E.P) ho hcal]
    simp only [builtin]
    refine run_v ?_
    simp [Builtin.max_, hl, hu]

theorem p_mn (R : Rel C A K S a w) {c : Call} (ho : o.op = .call c) (hcal : c.callee = .builtin .min) (h : pureV (evalO S.s) (.mn c.args.toList) = some r) : PureOk C A K S a w o r := by
  simp only [pureV] at h
  cases hl : c.args.toList with
  | nil => simp [hl, evalL] at h
  | cons x l =>
    simp only [hl, evalL] at h
    obtain ⟨u, hu, hr⟩ := min_sound (P := C.E.P) (np := C.np) (N := Still C A K S.l w) (evalL (evalO S.s) l) (l.map a.eval) _ _ (R.eval x)
      ⟨by simp [evalL_len], fun j h1 h2 => by rw [evalL_get]; simpa using R.eval _⟩ h
    refine PureOk.of (v := u) ?_ hr
    rw [run_builtin (P := C.E.P) ho hcal]
    simp only [builtin]
    refine run_v ?_
    simp [Builtin.min_, hl, hu]

theorem p_nilChk (R : Rel C A K S a w) {x : Operand} (ho : o.op = .nilCheck x) (h : pureV (evalO S.s) (.nilChk x) = some r) : PureOk C A K S a w o r := by
  have hx := R.eval x
  have main : ∀ v, a.eval x = v → (v ≠ .pointer none ∧ v ≠ .nilIface ∧ v ≠ .nilFunc ∧ ∀ n f c, v ≠ .func (.method n) f c) → (execOp a.eval o).run C.E.P w = .ok (.value v) w := by
    intro v hv hne
    simp only [execOp, ho, hv]
    obtain ⟨h1, h2, h3, h4⟩ := hne
    cases v <;> first | rfl | (exact absurd rfl h2) | (exact absurd rfl h3) | skip
    · rename_i ad; cases ad <;> first | rfl | (exact absurd rfl h1)
    · rename_i fn f c; cases fn <;> first | rfl | (exact absurd rfl (h4 _ _ _))
  simp only [pureV] at h
  split at h <;> first | (cases h; done) | skip
  all_goals (rename_i hX; rw [hX] at hx; cases h)
  · exact PureOk.of (main _ (vrep_rf hx) (by simp)) (.one (.rf _ _))
  · obtain ⟨blk, off, f, hv, _⟩ := vrep_el hx
    exact PureOk.of (main _ hv (by simp)) (by rw [← hv]; exact hx)
  · exact PureOk.of (main _ (vrep_gl hx) (by simp)) (.one (.gl _))
  · obtain ⟨vs, hv, _⟩ := vrep_fn hx
    exact PureOk.of (main _ hv (by simp)) (by rw [← hv]; exact hx)

theorem p_tas {sents : List Nat} (hE : EnvOk C.E sents) (R : Rel C A K S a w) {x : Operand} {xt t e : TypeId} (ho : o.op = .typeAssert x xt t true) (ht : C.E.P.underlying t = some (.pointer e)) (hz : zeroOfT C.E.P t = some (.pointer none)) (hT : t ≠ C.E.T)
    (h : pureV (evalO S.s) (.tas t .np x) = some r) : PureOk C A K S a w o r := by
  have hx := R.eval x
  have hres : VRep C.E C.np w (Still C A K S.l w) A K (.tp [.np, .b false]) (.tuple [.pointer none, .bool false].toArray) := .tp _ _ rfl fun j h1 h2 => by
    match j with
    | 0 => exact .flat .np
    | 1 => exact .flat (.b _)
    | j + 2 => simp at h1; omega
  simp only [pureV] at h
  split at h <;> first | (cases h; done) | skip
  rotate_left
  rotate_left
  · rename_i t' cs hX
    rw [hX] at hx
    cases hb : Nat.beq t t'
    · simp [hb] at h
    · have := Nat.eq_of_beq_eq_true hb
      subst this
      simp only [hb, cond_true, Option.some.injEq] at h
      subst h
      obtain ⟨blk, off, f, hv, hN, h0, h1⟩ := vrep_ie hx
      refine PureOk.of (v := .tuple [.pointer (some ⟨blk, off, none⟩), .bool true].toArray) ?_ (.tp _ _ rfl fun j p q => ?_)
      · simp only [execOp, ho, hv]
        refine run_v ?_
        simp [Instr.typeAssert, run_underlying ht]
      · match j with
        | 0 => exact .el cs 0 blk off f hN h0 h1
        | 1 => exact .flat (.b _)
        | j + 2 => simp at p; omega
  all_goals (rename_i hX; rw [hX] at hx; cases h)
  · obtain ⟨b, _, hv⟩ := vrep_er hx
    refine PureOk.of ?_ hres
    simp only [execOp, ho, hv, Env.errV]
    refine run_v ?_
    have hne : ¬ (C.E.T = t) := fun e => hT e.symm
    simp [Instr.typeAssert, run_underlying ht, hne, run_zeroValue hz]
  · refine PureOk.of ?_ hres
    simp only [execOp, ho, vrep_nl hx]
    refine run_v ?_
    simp [Instr.typeAssert, run_underlying ht, run_zeroValue hz]


theorem idx_of {x : AV} {n : Nat} {E : Env} {np : Nat} {N : Nat → Prop} {v : Value} (h : idx x = some n) (hv : VRep E np w N A K x v) : ∃ k, v = .int k n := by
  unfold idx at h
  split at h <;> first | (cases h; done) | skip
  rename_i k m
  by_cases hm : 0 ≤ m
  · simp only [hm, decide_true, cond_true, Option.some.injEq] at h
    subst h
    exact ⟨k, by rw [vrep_int hv]; congr 1; omega⟩
  · simp [hm] at h

theorem run_bound {P : Program} {k : IntKind} {n y : Nat} (code : BoundsCode) (h : n ≤ y) : (Instr.sliceBound (.int k n) y code).run P w = .ok n w := by
  have : (n : Int) ≤ (y : Int) := by omega
  simp [Instr.sliceBound, asIntOf, this]

/-- The bounds of a slice of two. -/
theorem run_bounds {P : Program} {isSlice : Bool} {len cap l h : Nat} {lo hi : Option Value} (hlo : (lo = none ∧ l = 0) ∨ ∃ k, lo = some (.int k l)) (hhi : (hi = none ∧ h = len) ∨ ∃ k, hi = some (.int k h)) (h1 : l ≤ h) (h2 : h ≤ cap) :
    (Instr.sliceBounds isSlice len cap lo hi none).run P w = .ok (l, h, cap) w := by
  rcases hlo with ⟨rfl, rfl⟩ | ⟨k, rfl⟩ <;> rcases hhi with ⟨rfl, rfl⟩ | ⟨k', rfl⟩ <;> simp [Instr.sliceBounds, run_bound _ h1, run_bound _ h2]

theorem opt_idx {ρ : Operand → AV} {ev : Operand → Value} {E : Env} {np : Nat} {N : Nat → Prop} (hρ : ∀ x, VRep E np w N A K (ρ x) (ev x)) {x : Option Operand} {d n : Nat}
    (h : (match x.map ρ with | none => some d | some v => idx v) = some n) : (x.map ev = none ∧ n = d) ∨ ∃ k, x.map ev = some (.int k n) := by
  cases x with
  | none => simp only [Option.map_none, Option.some.injEq] at h; exact .inl ⟨rfl, h.symm⟩
  | some x =>
    simp only [Option.map_some] at h
    obtain ⟨k, hk⟩ := idx_of h (hρ x)
    exact .inr ⟨k, by simp [hk]⟩

theorem p_slcSl (R : Rel C A K S a w) {t e : TypeId} {sz : Nat} {x : Operand} {lo hi mx : Option Operand} (ho : o.op = .slice t x lo hi mx) (ht : C.E.P.underlying t = some (.slice e)) (hz : sizeOfT C.E.P e = some (sz + 1))
    (h : pureV (evalO S.s) (.slc (sz + 1) x lo hi mx) = some r) : PureOk C A K S a w o r := by
  have hx := R.eval x
  obtain ⟨i, hi', hiz⟩ := size_info hz
  simp only [pureV, slcV] at h
  have ev : ∀ v, (Instr.sliceAt t (a.eval x) (lo.map a.eval) (hi.map a.eval) (mx.map a.eval)).run C.E.P w = .ok v w → (execOp a.eval o).run C.E.P w = .ok (.value v) w := fun v hv => by
    simp only [execOp, ho]; exact run_v hv
  have main : ∀ (base : Option Addr) (n c l h : Nat), a.eval x = .slice base n c → mx = none → (lo.map a.eval = none ∧ l = 0 ∨ ∃ k, lo.map a.eval = some (.int k l)) → (hi.map a.eval = none ∧ h = n ∨ ∃ k, hi.map a.eval = some (.int k h)) → l ≤ h → h ≤ c →
      (execOp a.eval o).run C.E.P w = .ok (.value (.slice (if c = l then base else base.map (·.add (l * (sz + 1)))) (h - l) (c - l))) w := by
    intro base n c l h hv hmx h1 h2 h3 h4
    refine ev _ ?_
    simp only [hv, hmx, Option.map_none]
    simp only [Instr.sliceAt, Sem.run_bind, run_underlying ht, Result.andThen_ok, Instr.slice, run_bounds h1 h2 h3 h4, Go.sizeOf, run_typeInfo hi', Sem.run_pure, hiz]
  split at h
  · -- three bounds
    rename_i m hm
    split at h <;> first | (cases h; done) | skip
    rename_i l h' m' q1 q2 q3
    cases hmx : mx with
    | none => simp [hmx] at hm
    | some y =>
      simp only [hmx, Option.map_some, Option.some.injEq] at hm
      subst hm
      obtain ⟨k3, e3⟩ := idx_of q3 (R.eval y)
      obtain ⟨z, rfl, rfl⟩ : ∃ z, hi = some z ∧ evalO S.s z = h' := by
        cases hi with
        | none => simp at q2
        | some z => exact ⟨z, rfl, by simpa using q2⟩
      split at h <;> first | (cases h; done) | skip
      rename_i hh cs n hi0 hX
      cases hb : (Nat.ble l hh && (Nat.ble hh m' && Nat.ble m' n))
      · simp [hb] at h
      · simp only [hb, cond_true, Option.some.injEq] at h
        subst h
        simp only [Bool.and_eq_true, Nat.ble_eq] at hb
        obtain ⟨b1, b2, b3⟩ := hb
        rw [hX] at hx
        obtain ⟨base, c, f, hv, hn, h0, h1⟩ := vrep_sl hx
        obtain ⟨k2, e2⟩ := idx_of hi0 (R.eval z)
        have h00 := opt_idx (ρ := evalO S.s) (ev := a.eval) (fun x => R.eval x) (x := lo) (d := 0) (n := l) q1
        have hbo : (Instr.sliceBounds true n c (lo.map a.eval) (some (.int k2 hh)) (some (.int k3 m'))).run C.E.P w = .ok (l, hh, m') w := by
          rcases h00 with ⟨e0, rfl⟩ | ⟨k, e0⟩ <;> simp only [e0, Instr.sliceBounds, Sem.run_bind, Sem.run_pure, run_bound _ b1, run_bound _ b2, run_bound _ (Nat.le_trans b3 hn), Result.andThen_ok]
        refine PureOk.of (v := .slice (if m' = l then base else base.map (·.add (l * (sz + 1)))) (hh - l) (m' - l)) (ev _ ?_) (.one (.flat (.sl _ _ _ _ (fun j => f (l * (sz + 1) + j)) (by omega) ?_ fun j hj => ?_)))
        · simp only [hv, hmx, Option.map_some, e2, e3]
          simp only [Instr.sliceAt, Sem.run_bind, run_underlying ht, Result.andThen_ok, Instr.slice, hbo, Go.sizeOf, run_typeInfo hi', Sem.run_pure, hiz]
        · rcases h0 with rfl | ⟨blk, off, rfl, hN, hc⟩
          · left; simp
          · by_cases hcl : m' = l
            · left
              have : hh - l = 0 := by omega
              simp [this]
            · right
              refine ⟨blk, off + l * (sz + 1), ?_, hN, fun j hj => ?_⟩
              · rw [if_neg hcl]; simp [Addr.add_mid]
              · simp only [List.length_take, List.length_drop] at hj
                have := hc (l * (sz + 1) + j) (by omega)
                rw [← this, Nat.add_assoc]
        · simp only [List.length_take, List.length_drop] at hj
          simp only [List.getElem_take, List.getElem_drop]
          exact h1 _ _
  · rename_i hm
    have hmx : mx = none := by cases mx <;> simp_all
    split at h
    · rename_i cs n hX
      rw [hX] at hx
      obtain ⟨base, c, f, hv, hn, h0, h1⟩ := vrep_sl hx
      split at h <;> first | (cases h; done) | skip
      rename_i l h' q1 q2
      cases hb : (Nat.ble l h' && Nat.ble h' n)
      · simp [hb] at h
      · simp only [hb, cond_true, Option.some.injEq] at h
        subst h
        simp only [Bool.and_eq_true, Nat.ble_eq] at hb
        obtain ⟨b1, b2⟩ := hb
        refine PureOk.of (main base n c l h' hv hmx (opt_idx (fun x => R.eval x) q1) (opt_idx (fun x => R.eval x) q2) b1 (by omega)) (.one (.flat (.sl _ _ _ _ (fun j => f (l * (sz + 1) + j)) (by omega) ?_ fun j hj => ?_)))
        · rcases h0 with rfl | ⟨blk, off, rfl, hN, hc⟩
          · left; simp
          · by_cases hcl : c = l
            · left
              have : h' - l = 0 := by omega
              simp [this]
            · right
              refine ⟨blk, off + l * (sz + 1), ?_, hN, fun j hj => ?_⟩
              · rw [if_neg hcl]; simp [Addr.add_mid]
              · simp only [List.length_take, List.length_drop] at hj
                have := hc (l * (sz + 1) + j) (by omega)
                rw [← this, Nat.add_assoc]
        · simp only [List.length_take, List.length_drop] at hj
          simp only [List.getElem_take, List.getElem_drop]
          exact h1 _ _
    · rename_i hX
      rw [hX] at hx
      have hv := vrep_z hx
      split at h <;> first | (cases h; done) | skip
      rename_i q1 q2
      cases h
      refine PureOk.of (main none 0 0 0 0 hv hmx (opt_idx (fun x => R.eval x) q1) (opt_idx (fun x => R.eval x) q2) (Nat.le_refl _) (Nat.le_refl _)) (.one (.flat .z))
    · rename_i d off n sz' hX
      rw [hX] at hx
      obtain ⟨base, c, hv, hnp, hn, hk, hb0⟩ := vrep_rs hx
      split at h <;> first | (cases h; done) | skip
      rename_i l h' q1 q2
      cases hb : (Nat.beq (sz + 1) sz' && Nat.ble l h' && Nat.ble h' n && Nat.blt l n)
      · simp [hb] at h
      · simp only [hb, cond_true, Option.some.injEq] at h
        subst h
        simp only [Bool.and_eq_true, Nat.ble_eq, Nat.blt_eq, Nat.beq_eq] at hb
        obtain ⟨⟨⟨rfl, b1⟩, b2⟩, b3⟩ := hb
        have hcl : ¬ c = l := by omega
        have hmul : (l * (sz + 1)) + (c - l) * (sz + 1) = c * (sz + 1) := by rw [← Nat.add_mul]; congr 1; omega
        refine PureOk.of (main base n c l h' hv hmx (opt_idx (fun x => R.eval x) q1) (opt_idx (fun x => R.eval x) q2) b1 (by omega)) (.one (.rs _ _ _ _ _ _ hnp (by omega) (by omega) fun hK => ?_))
        rw [if_neg hcl, hb0 hK]; simp [Addr.add_mid]
    · cases h


theorem p_buildQ (R : Rel C A K S a w) {t : TypeId} {fs : Array Field} {parts : Array (Nat × Operand)} {zs : List AV} {ps : List (Nat × Nat × Operand)} {v0 : Value} (ho : o.op = .build t parts)
    (hs : C.E.P.underlying t = some (.struct fs)) (hz0 : zeroOfT C.E.P t = some v0) (hall : (fs.toList.all fun f => (sizeOfT C.E.P f.type).isSome) = true) (hz : zeroCellsOf v0 = some zs) (hp : structParts C.E.P fs parts.toList = some ps)
    (h : pureV (evalO S.s) (.buildQ zs ps) = some r) : PureOk C A K S a w o r := by
  simp only [pureV] at h
  cases hf : fillQ (evalO S.s) ps zs with
  | none => simp [hf] at h
  | some cs =>
    simp only [hf, Option.some.injEq] at h
    subst h
    obtain ⟨i, hi, hiz⟩ := zero_info hz0
    obtain ⟨places, hpl, hpl2⟩ := run_places (w := w) fs.toList hall
    obtain ⟨q1, q2⟩ := structParts_of hp
    obtain ⟨l', hl', hr⟩ := fillQ_sound (np := C.np) (A := A) (K := K) (place := (places.toArray[·]?)) (ρ := evalO S.s) (ev := a.eval) (fun x => R.eval x) parts.toList ps ⟨q1, fun j h1 h2 => by
      obtain ⟨⟨f, hf1, hf2, hf3⟩, hf4⟩ := q2 j h1 h2
      refine ⟨?_, hf4⟩
      have := hpl2 _ f (by simpa using hf1)
      simp [this, hf2, hf3]⟩ (RepQ.ofL (zero_cells hz)) hf
    refine PureOk.of (v := .agg l'.toArray) ?_ (VRep.aqL hr)
    simp only [execOp, ho]
    refine run_v ?_
    have hmapM : (fs.mapM fun f => (do pure (f.offset, ← Go.sizeOf f.type) : Sem (Nat × Nat))).run C.E.P w = .ok places.toArray w := by
      rw [← Array.toArray_toList (xs := fs)] 
      rw [List.mapM_toArray]
      simp only [Sem.run_map, hpl, Result.andThen_ok]
    have hz' := run_zeroValue hz0 w
    simp only [Instr.build, Sem.run_bind, hz', Result.andThen_ok, run_underlying hs, hmapM]
    simp only [Array.toList_map, Array.toArray_toList] at hl' ⊢
    rw [hl']; rfl

theorem p_boxE (R : Rel C A K S a w) {e : TypeId} {sz : Nat} {v : Operand} (ho : o.op = .box e v) (h : pureV (evalO S.s) (.boxE sz v) = some r) : PureOk C A K S a w o r := by
  simp only [pureV] at h
  split at h <;> first | (cases h; done) | skip
  rename_i cs hcs
  cases h
  obtain ⟨hr, hlen⟩ := cells_sound (R.eval v) hcs
  have G := Grew.alloc w (.cells (a.eval v).cells e)
  have hr' := hr.mono (w' := w.alloc (.cells (a.eval v).cells e)) (N' := Still C A K S.l (w.alloc (.cells (a.eval v).cells e))) (fun b hb => hb.grew G.size) (fun b hb => G.block b hb.1)
  refine ⟨.pointer (some ⟨w.heap.size, 0, none⟩), w.alloc (.cells (a.eval v).cells e), ?_, G, .one (.el cs 0 w.heap.size 0 (fun j => (a.eval v).cells.toList.getD j undef) (R.still_new _) (fun j hj => ?_) fun j hj => ?_)⟩
  · simp only [execOp, ho]
    refine run_v ?_
    simp [Instr.box, newVar, Go.newRow, newObj, Sem.run, World.alloc_eq]
  · have hj' : j < (a.eval v).cells.toList.length := by rw [← hr.1]; exact hj
    rw [Nat.zero_add, World.cell?_alloc_new]
    simp [List.getElem?_eq_getElem hj', show j < (a.eval v).cells.size by simpa using hj']
  · have hj' : j < (a.eval v).cells.toList.length := by rw [← hr.1]; exact hj
    have := hr'.2 j hj hj'
    simpa [List.getElem?_eq_getElem hj', show j < (a.eval v).cells.size by simpa using hj'] using this

theorem p_mki (R : Rel C A K S a w) {t e : TypeId} {x : Operand} (ho : o.op = .makeInterface t x) (ht : C.E.P.underlying t = some (.pointer e)) (h : pureV (evalO S.s) (.mki t x) = some r) : PureOk C A K S a w o r := by
  have hx := R.eval x
  simp only [pureV] at h
  split at h <;> first | (cases h; done) | skip
  rename_i cs hX
  cases h
  rw [hX] at hx
  obtain ⟨blk, off, f, hv, hN, hc, h1⟩ := vrep_el hx
  refine PureOk.of (v := .iface t (.pointer (some ⟨blk, off, none⟩))) ?_ (.one (.flat (.ie t cs blk off f hN hc h1)))
  simp only [execOp, ho, hv]
  refine run_v ?_
  simp [Instr.makeInterface, run_underlying ht]

theorem p_cap (R : Rel C A K S a w) {c : Call} {x : Operand} {t e : TypeId} (ho : o.op = .call c) (hcal : c.callee = .builtin .cap) (hargs : c.args.toList = [x]) (h0 : c.argTypes[0]? = some t)
    (ht : C.E.P.underlying t = some (.slice e)) (h : pureV (evalO S.s) (.cap x) = some r) : PureOk C A K S a w o r := by
  have hx := R.eval x
  simp only [pureV] at h
  split at h <;> first | (cases h; done) | skip
  rename_i hX
  rw [hX] at hx
  cases h
  refine PureOk.of (v := .int .i64 0) ?_ (.one (.flat (.i _ _)))
  rw [run_builtin (P := C.E.P) ho hcal, args_one hargs, vrep_z hx]
  simp only [builtin]
  refine run_v ?_
  simp [Builtin.cap_, h0, run_underlying ht, goInt]

/-- ALL PURE OPERATIONS. -/
theorem pure_sound {sents : List Nat} {ann : Ann} (hE : EnvOk C.E sents) (R : Rel C A K S a w) {ao : AOp} (hc : cOp C.E.P C.E.T sents ann o = some ao) (hng : ∀ g, ao ≠ .ldg g) (hne : ∀ m x, ao ≠ .ldE m x) (h : pureV (evalO S.s) ao = some r) : PureOk C A K S a w o r := by
  unfold cOp at hc
  split at hc
  case _ x ho => cases hc; exact p_move R (.inl ho) h
  case _ x ho =>
    split at hc <;> first | (cases hc; done) | skip
    · split at hc
      · cases hc; cases h
      · cases hc; exact p_move R (.inr ho) h
    · cases hc; exact p_move R (.inr ho) h
  case _ c x y ho => cases hc; exact p_pick R ho h
  case _ op t x y u ho => cases hc; exact p_bin hE R ho h
  case _ op t x ho => cases hc; exact p_un R ho h
  case _ s d x ho =>
    split at hc <;> first | (cases hc; done) | skip
    rename_i h1 h2
    cases hc; exact p_conv R ho h1 h2 h
  case _ s x f ho =>
    split at hc <;> first | (cases hc; done) | skip
    rename_i fs h1
    split at hc <;> first | (cases hc; done) | skip
    rename_i fd h2
    split at hc <;> first | (cases hc; done) | skip
    rename_i n h3
    cases hc; exact p_addr R ho h1 h2 h3 h
  case _ t x i ho =>
    split at hc <;> first | (cases hc; done) | skip
    · rename_i len e h1
      split at hc <;> first | (cases hc; done) | skip
      rename_i sz h2
      cases hc; exact p_ixA R ho h1 h2 h
    · rename_i e h1
      split at hc <;> first | (cases hc; done) | skip
      rename_i sz h2
      cases hc; exact p_ixS R ho h1 h2 h
  case _ t x f ho =>
    split at hc <;> first | (cases hc; done) | skip
    rename_i fs h1
    split at hc <;> first | (cases hc; done) | skip
    rename_i fd h2
    split at hc <;> first | (cases hc; done) | skip
    rename_i m h3
    cases hc; exact p_fld R ho h1 h2 h3 h
  case _ t x i ho =>
    split at hc <;> first | (cases hc; done) | skip
    · rename_i len e h1
      split at hc <;> first | (cases hc; done) | skip
      rename_i sz m h2 h3
      cases hc; exact p_ixV R ho h1 h2 h3 h
    · rename_i h1
      cases hc; exact p_ixStr R ho h1 h
  case _ x j ho => cases hc; exact p_ext R ho h
  case _ t parts ho =>
    split at hc <;> first | (cases hc; done) | skip
    · rename_i fs v h1 h2
      split at hc <;> first | (cases hc; done) | skip
      rename_i zs ps h3 h4 h5
      split at hc
      · cases hc; exact p_buildQ R ho h1 h2 h3 h4 h5 h
      · cases hc; exact p_buildStruct R ho h1 h2 h3 h4 h5 h
    · rename_i len e v h1 h2
      split at hc <;> first | (cases hc; done) | skip
      rename_i sz zs h3 h4
      cases hc; exact p_buildArr R ho h1 h2 h3 h4 h
  case _ t n parts ho =>
    split at hc <;> first | (cases hc; done) | skip
    rename_i e h1
    split at hc <;> first | (cases hc; done) | skip
    rename_i sz zs h2 h3
    cases hb : (Nat.beq zs.length (sz + 1) && Nat.ble (n * (sz + 1)) 16777216)
    · simp [hb] at hc
    · simp only [hb, cond_true] at hc
      simp only [Bool.and_eq_true, Nat.beq_eq, Nat.ble_eq] at hb
      split at hc
      · cases hc; cases h
      · cases hc; exact p_bslV R ho (isSliceT_of h1) h2 h3 hb.1 hb.2 h
  case _ t l c ho =>
    split at hc <;> first | (cases hc; done) | skip
    rename_i e h1
    split at hc <;> first | (cases hc; done) | skip
    rename_i sz b zs h2 h3 h4
    cases hb : (Nat.beq zs.length (sz + 1))
    · simp [hb] at hc
    · simp only [hb, cond_true] at hc
      simp only [Nat.beq_eq] at hb
      split at hc
      · cases hc; cases h
      · cases hc; exact p_mkS R ho (isSliceT_of h1) h2 h3 h4 hb h
  case _ f first caps ho =>
    cases hb : first.isEmpty
    · simp [hb] at hc
    · simp only [hb, cond_true] at hc
      cases hc; exact p_mkfn R ho hb h
  case _ x ho => cases hc; exact p_nilChk R ho h
  case _ x xt t ho =>
    split at hc <;> first | (cases hc; done) | skip
    rename_i e h1
    cases hb : Nat.beq t C.E.T
    · simp only [hb, cond_false] at hc
      split at hc <;> first | (cases hc; done) | skip
      rename_i h2
      cases hc
      exact p_tas hE R ho h1 h2 (fun e => by subst e; rw [Nat.beq_refl] at hb; cases hb) h
    · simp [hb] at hc
  case _ t x lo hi mx ho =>
    split at hc <;> first | (cases hc; done) | skip
    rename_i e h1
    split at hc <;> first | (cases hc; done) | skip
    rename_i sz h2
    cases hc; exact p_slcSl R ho h1 h2 h
  case _ t x ho =>
    split at hc <;> first | (cases hc; done) | skip
    cases x with
    | global g =>
      simp only at hc
      cases hb : sentB sents g
      · simp [hb] at hc
      · simp only [hb, cond_true] at hc
        split at hc <;> cases hc
        exact absurd rfl (hng g)
    | _ =>
      simp only [Bool.cond_eq_ite] at hc
      split at hc
      · cases hc; exact absurd rfl (hne _ _)
      · split at hc <;> cases hc <;> cases h
  case _ t x v ho => split at hc <;> cases hc; cases h
  case _ e v ho =>
    split at hc <;> first | (cases hc; done) | skip
    split at hc
    · cases hc; exact p_boxE R ho h
    · split at hc <;> cases hc <;> cases h
  case _ e ho =>
    split at hc <;> first | (cases hc; done) | skip
    split at hc <;> cases hc <;> cases h
  case _ t x ho =>
    split at hc
    · rename_i e h1
      cases hc; exact p_mki R ho h1 h
    · cases hc; cases h
  case _ x ho => cases hc; cases h
  case _ c ho =>
    unfold cCall at hc
    split at hc
    · split at hc <;> cases hc <;> cases h
    · rename_i hcal
      split at hc <;> first | (cases hc; done) | skip
      · rename_i x e h1 h2
        cases hc
        cases h0 : c.argTypes[0]? with
        | none => simp [h0] at h2
        | some t => exact p_len R ho hcal h1 h0 (by simpa [h0] using h2) h
      · rename_i x h1 h2
        cases hc
        cases h0 : c.argTypes[0]? with
        | none => simp [h0] at h2
        | some t => exact p_lenS R ho hcal h1 h0 (by simpa [h0] using h2) h
    · rename_i hcal
      split at hc <;> first | (cases hc; done) | skip
      rename_i x e h1 h2
      cases hc
      cases h0 : c.argTypes[0]? with
      | none => simp [h0] at h2
      | some t => exact p_cap R ho hcal h1 h0 (by simpa [h0] using h2) h
    · rename_i hcal; cases hc; exact p_mx R ho hcal h
    · rename_i hcal; cases hc; exact p_mn R ho hcal h
    · simp only [Bool.cond_eq_ite] at hc
      repeat' (split at hc <;> first | (cases hc; done) | skip)
      all_goals (cases hc; cases h)
    · cases hc
  case _ => cases hc

end
end Zab

