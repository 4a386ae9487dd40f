/- '==' and its kin. No statement of the program stands here. -/
import Derived.Test.YtohilcdmockfbaaDoorZabOp
import Derived.LaidEqlPtr
namespace Zab
open Go
set_option linter.unusedSimpArgs false
set_option linter.unusedVariables false

section
variable {E : Env} {np : Nat} {w : World} {N : Nat → Prop} {A K : Nat → Nat}

theorem ek_of {P : Program} {op : BinOp} {t : TypeId} {x y : Operand} {k : EqKind} (h : ekOf P op t x y = k) (hk : k ≠ .no) : op = .eql ∨ op = .neq := by
  unfold ekOf at h
  cases op <;> first | (exact .inl rfl) | (exact .inr rfl) | (exact absurd h.symm hk)

theorem ek_bool {P : Program} {op : BinOp} {t : TypeId} {x y : Operand} (h : ekOf P op t x y = .bool) : P.underlying t = some .bool := by
  have ho := ek_of h (by decide)
  rcases ho with rfl | rfl <;> (unfold ekOf at h; simp only at h; split at h <;> first | assumption | (split at h <;> cases h) | cases h)
theorem ek_str {P : Program} {op : BinOp} {t : TypeId} {x y : Operand} (h : ekOf P op t x y = .str) : P.underlying t = some .string := by
  have ho := ek_of h (by decide)
  rcases ho with rfl | rfl <;> (unfold ekOf at h; simp only at h; split at h <;> first | assumption | (split at h <;> cases h) | cases h)
theorem ek_iface {P : Program} {op : BinOp} {t : TypeId} {x y : Operand} (h : ekOf P op t x y = .iface ∨ ekOf P op t x y = .ifaceC) : ∃ ms, P.underlying t = some (.interface ms) := by
  have ho : op = .eql ∨ op = .neq := by rcases h with h | h <;> exact ek_of h (by decide)
  rcases h with h | h <;> rcases ho with rfl | rfl <;> (unfold ekOf at h; simp only at h; split at h <;> first | exact ⟨_, by assumption⟩ | (split at h <;> cases h) | cases h)
theorem ek_ifaceC {P : Program} {op : BinOp} {t : TypeId} {x y : Operand} (h : ekOf P op t x y = .ifaceC) : isConstO x = true ∨ isConstO y = true := by
  have ho := ek_of h (by decide)
  rcases ho with rfl | rfl <;> (unfold ekOf at h; simp only at h; split at h <;> first | (cases h; done) | skip)
  all_goals (split at h <;> first | (rename_i hc; simpa using hc) | (cases h; done))
theorem ek_ptr {P : Program} {op : BinOp} {t : TypeId} {x y : Operand} (h : ekOf P op t x y = .ptr) : ∃ e, P.underlying t = some (.pointer e) := by
  have ho := ek_of h (by decide)
  rcases ho with rfl | rfl <;> (unfold ekOf at h; simp only at h; split at h <;> first | exact ⟨_, by assumption⟩ | (split at h <;> cases h) | cases h)
theorem ek_ints {P : Program} {op : BinOp} {t : TypeId} {x y : Operand} {n : Nat} (h : ekOf P op t x y = .ints n) :
    ∃ fs, P.underlying t = some (.struct fs) ∧ fs.size = n ∧ intFields P 0 fs.toList = true ∧ P.stoodInHeld t = false ∧ P.eqGuardType P.depth t = false := by
  have ho := ek_of h (by simp)
  rcases ho with rfl | rfl <;> (unfold ekOf at h; simp only at h; split at h <;> first | (cases h; done) | skip)
  all_goals (split at h <;> first | (cases h; done) | skip)
  all_goals (rename_i hc; simp only [Bool.and_eq_true, Bool.not_eq_true'] at hc; cases h; exact ⟨_, by assumption, rfl, hc.1.1, hc.1.2, hc.2⟩)

theorem ek_slc {P : Program} {op : BinOp} {t : TypeId} {x y : Operand} (h : ekOf P op t x y = .slc) : (∃ e, P.underlying t = some (.slice e)) ∧ y = .const (.slice none 0 0) := by
  have ho := ek_of h (by decide)
  rcases ho with rfl | rfl <;> (unfold ekOf at h; simp only at h; split at h <;> first | (cases h; done) | skip)
  all_goals (split at h <;> first | (cases h; done) | skip)
  all_goals (rename_i hc; refine ⟨⟨_, by assumption⟩, ?_⟩; unfold isNilS at hc; split at hc <;> first | rfl | (cases hc))
theorem eqlIn_slc {P : Program} {t e : TypeId} {w : World} (ht : P.underlying t = some (.slice e)) (d : Nat) (a : Addr) (l c : Nat) : (Op.equalIn (d + 1) t (.slice (some a) l c) (.slice none 0 0)).run P w = .ok false w := by
  simp [Op.equalIn, underlying, program, Sem.run, ht]

/-- '==' where neither both are nil nor both structs. -/
theorem eqGuard_plain {P : Program} {op : BinOp} {t : TypeId} {x y : Operand} {a b : Value} (h1 : ¬ (a = .nilIface ∧ b = .nilIface)) (h2 : ∀ c d, ¬ (a = .agg c ∧ b = .agg d)) : (eqGuard op t x y a b).run P w = .ok () w := by
  unfold eqGuard
  cases op <;> first | rfl | skip
  all_goals (simp only [Bool.not_true, Bool.false_eq_true, if_false, ↓reduceIte]; split <;> first | (exact absurd ⟨rfl, rfl⟩ h1) | (exact absurd ⟨rfl, rfl⟩ (h2 _ _)) | rfl | skip)
  all_goals (simp; split <;> first | (exact absurd ⟨rfl, rfl⟩ h1) | (exact absurd ⟨rfl, rfl⟩ (h2 _ _)) | rfl)

theorem isConstO_of {x : Operand} (h : isConstO x = true) : ∃ v, x = .const v := by
  cases x <;> first | exact ⟨_, rfl⟩ | (cases h)

theorem eqGuard_const {P : Program} {op : BinOp} {t : TypeId} {x y : Operand} (h : isConstO x = true ∨ isConstO y = true) : (eqGuard op t x y .nilIface .nilIface).run P w = .ok () w := by
  rcases h with h | h
  · obtain ⟨v, rfl⟩ := isConstO_of h
    unfold eqGuard
    cases op <;> first | rfl | simp
  · obtain ⟨v, rfl⟩ := isConstO_of h
    unfold eqGuard
    cases op <;> first | rfl | (cases x <;> simp)

theorem eqGuard_agg {P : Program} {op : BinOp} {t : TypeId} {x y : Operand} {c d : Array Value} (h : P.eqGuardType P.depth t = false) : (eqGuard op t x y (.agg c) (.agg d)).run P w = .ok () w := by
  unfold eqGuard
  cases op <;> first | rfl | simp [program, Sem.run, h]

theorem eqlIn_bool {P : Program} {t : TypeId} (ht : P.underlying t = some .bool) (d : Nat) (x y : Bool) : (Op.equalIn (d + 1) t (.bool x) (.bool y)).run P w = .ok (x == y) w := by
  simp [Op.equalIn, run_underlying ht]
theorem eqlIn_str {P : Program} {t : TypeId} (ht : P.underlying t = some .string) (d : Nat) (x y : ByteArray) : (Op.equalIn (d + 1) t (.string x) (.string y)).run P w = .ok (x == y) w := by
  simp [Op.equalIn, run_underlying ht]
theorem eqlIn_iface_nil {P : Program} {t : TypeId} {ms : Array (String × TypeId)} (ht : P.underlying t = some (.interface ms)) (d : Nat) : (Op.equalIn (d + 1) t .nilIface .nilIface).run P w = .ok true w := by
  simp [Op.equalIn, run_underlying ht]
theorem eqlIn_iface_l {P : Program} {t : TypeId} {ms : Array (String × TypeId)} (ht : P.underlying t = some (.interface ms)) (d : Nat) (u : TypeId) (v : Value) : (Op.equalIn (d + 1) t .nilIface (.iface u v)).run P w = .ok false w := by
  simp [Op.equalIn, run_underlying ht]
theorem eqlIn_iface_r {P : Program} {t : TypeId} {ms : Array (String × TypeId)} (ht : P.underlying t = some (.interface ms)) (d : Nat) (u : TypeId) (v : Value) : (Op.equalIn (d + 1) t (.iface u v) .nilIface).run P w = .ok false w := by
  simp [Op.equalIn, run_underlying ht]
theorem eqlIn_ptr_nil_r {P : Program} {t e : TypeId} (ht : P.underlying t = some (.pointer e)) (d : Nat) (a : Option Addr) : (Op.equalIn (d + 1) t (.pointer a) (.pointer none)).run P w = .ok a.isNone w := by
  cases a <;> simp [Op.equalIn, run_underlying ht]
theorem eqlIn_ptr_nil_l {P : Program} {t e : TypeId} (ht : P.underlying t = some (.pointer e)) (d : Nat) (a : Option Addr) : (Op.equalIn (d + 1) t (.pointer none) (.pointer a)).run P w = .ok a.isNone w := by
  cases a <;> simp [Op.equalIn, run_underlying ht]

theorem er_ptr {v : Value} {g : Nat} (h : VRep E np w N A K (.er g) v) : ∃ b, E.sent g = some b ∧ v = .iface E.T (.pointer (some ⟨b.1, b.2, none⟩)) := vrep_er h

/-- Is it nil? -/
theorem isNil_sound {X : AV} {v : Value} {t : Bool} (h : VRep E np w N A K X v) (hn : isNil X = some t) : ∃ a, v = .pointer a ∧ t = a.isNone := by
  unfold isNil at hn
  split at hn <;> first | (cases hn; done) | skip
  · cases hn; exact ⟨none, vrep_np h, rfl⟩
  · cases hn; exact ⟨_, vrep_rf h, rfl⟩
  · cases hn; obtain ⟨blk, off, f, rfl, _⟩ := vrep_el h; exact ⟨_, rfl, rfl⟩
  · cases hn; exact ⟨_, vrep_gl h, rfl⟩


theorem part_int {P : Program} {t : TypeId} {k : IntKind} (ht : P.underlying t = some (.int k)) {cs : Array Value} {o : Nat} {v : Value} (h : cs[o]? = some v) : (part t cs o).run P w = .ok v w := by
  simp [part, isAgg, run_underlying ht, h]

theorem eqlIn_int {P : Program} {t : TypeId} {k0 k : IntKind} (ht : P.underlying t = some (.int k0)) (d : Nat) (x y : Int) : (Op.equalIn (d + 1) t (.int k x) (.int k y)).run P w = .ok (x == y) w := by
  simp [Op.equalIn, run_underlying ht]

theorem fields_loop {P : Program} (d : Nat) (xs ys : Array Value) : ∀ (l : List Field) (j : Nat) (X Y : List AV) (t : Bool), intFields P j l = true → X.length = l.length → Y.length = l.length →
    (∀ i (h : i < X.length), ∃ v, xs[j + i]? = some v ∧ FRep E w N X[i] v) → (∀ i (h : i < Y.length), ∃ v, ys[j + i]? = some v ∧ FRep E w N Y[i] v) → sameInts X Y = some t →
    (forIn l ((none : Option Bool), ()) fun f __s =>
              if f.name ≠ "_" then do
                let __do_lift ← part f.type xs f.offset
                let __do_lift_1 ← part f.type ys f.offset
                let __do_lift ← Op.equalIn (d + 1) f.type __do_lift __do_lift_1
                if (!__do_lift) = true then pure (ForInStep.done (some false, ()))
                  else pure (ForInStep.yield (none, ()))
              else pure (ForInStep.yield (none, ())) : Sem (Option Bool × Unit)).run P w = .ok (if t then none else some false, ()) w
  | [], j, X, Y, t, _, hx, hy, _, _, hs => by
    simp only [List.length_nil, List.length_eq_zero_iff] at hx hy
    subst hx; subst hy
    simp only [sameInts, Option.some.injEq] at hs
    subst hs
    simp
  | f :: r, j, X, Y, t, hf, hx, hy, hX, hY, hs => by
    simp only [intFields, Bool.and_eq_true] at hf
    obtain ⟨hf0, hf1⟩ := hf
    simp only [isIntField, Bool.and_eq_true, Bool.not_eq_true'] at hf0
    obtain ⟨⟨⟨h1, h2⟩, h3⟩, h4⟩ := hf0
    obtain ⟨k, hk⟩ : ∃ k, P.underlying f.type = some (.int k) := by
      split at h1
      · exact ⟨_, by assumption⟩
      · cases h1
    have hoff : f.offset = j := Nat.eq_of_beq_eq_true h3
    have hne : f.name ≠ "_" := by simpa using h4
    match X, Y, hx, hy with
    | x :: X, y :: Y, hx, hy =>
    obtain ⟨vx, hvx, rx⟩ := hX 0 (by simp)
    obtain ⟨vy, hvy, ry⟩ := hY 0 (by simp)
    simp only [Nat.add_zero, List.getElem_cons_zero] at hvx hvy rx ry
    unfold sameInts at hs
    split at hs
    · rename_i heq _; cases heq
    · rename_i kx a X' ky c Y' e1 e2
      cases e1; cases e2
      cases rx; cases ry
      by_cases hkk : kx = ky
      · subst hkk
        simp only [decide_true, cond_true] at hs
        cases hr : sameInts X Y with
        | none => simp [hr] at hs
        | some t' =>
          simp only [hr, Option.some.injEq] at hs
          subst hs
          have ih := fields_loop d xs ys r (j + 1) X Y t' hf1 (by simpa using hx) (by simpa using hy)
            (fun i h => by have := hX (i + 1) (by simpa using h); simpa [Nat.add_assoc, Nat.add_comm 1 i] using this)
            (fun i h => by have := hY (i + 1) (by simpa using h); simpa [Nat.add_assoc, Nat.add_comm 1 i] using this) hr
          rw [List.forIn_cons]
          simp only [Sem.run_bind, if_pos hne, hoff, part_int hk hvx, part_int hk hvy, Result.andThen_ok, eqlIn_int hk]
          by_cases hac : a = c
          · subst hac
            simpa using ih
          · have : (a == c) = false := by simpa using hac
            simp [this, hac]
      · simp [hkk] at hs
    · cases hs

theorem eqlIn_ints {P : Program} {t : TypeId} {fs : Array Field} (ht : P.underlying t = some (.struct fs)) (hi : intFields P 0 fs.toList = true) (hst : P.stoodInHeld t = false) (d : Nat) {X Y : List AV} {xs ys : List Value} {b : Bool}
    (hx : X.length = fs.size) (hy : Y.length = fs.size) (lx : X.length = xs.length) (ly : Y.length = ys.length) (rx : ∀ j (h1 : j < X.length) (h2 : j < xs.length), FRep E w N X[j] xs[j]) (ry : ∀ j (h1 : j < Y.length) (h2 : j < ys.length), FRep E w N Y[j] ys[j])
    (hs : sameInts X Y = some b) : (Op.equalIn (d + 2) t (.agg xs.toArray) (.agg ys.toArray)).run P w = .ok b w := by
  rw [show d + 2 = (d + 1) + 1 from rfl]
  generalize hm : d + 1 = m
  simp only [Op.equalIn, Sem.run_bind, run_underlying ht, Result.andThen_ok, hst, program, Sem.run]
  rw [← Array.forIn_toList]
  simp only [Bool.false_eq_true, if_false, Sem.run_bind]
  subst hm
  rw [fields_loop (E := E) (N := N) d xs.toArray ys.toArray fs.toList 0 X Y b hi (by simpa using hx) (by simpa using hy)
    (fun i h => ⟨xs[i]'(by omega), by simp [List.getElem?_eq_getElem (show i < xs.length by omega)], rx i h (by omega)⟩)
    (fun i h => ⟨ys[i]'(by omega), by simp [List.getElem?_eq_getElem (show i < ys.length by omega)], ry i h (by omega)⟩) hs]
  cases b <;> rfl

/-- '==' and '!=' of two values that are no numbers. -/
theorem eql_sound {sents : List Nat} (hE : EnvOk E sents) (G : GOk E w) {op : BinOp} {t : TypeId} {x y : Operand} {X Y : AV} {vx vy : Value} {b : Bool} (hx : VRep E np w N A K X vx) (hy : VRep E np w N A K Y vy) (hcy : ∀ v, y = .const v → vy = v)
    (h : eqlV (ekOf E.P op t x y) X Y = some b) : (eqGuard op t x y vx vy).run E.P w = .ok () w ∧ (Op.equal t vx vy).run E.P w = .ok b w ∧ Go.binOp .eql t vx vy = (do pure (.bool (← Op.equal t vx vy))) ∧ Go.binOp .neq t vx vy = (do pure (.bool (!(← Op.equal t vx vy)))) := by
  have hmax : Op.maxDepth = 9998 + 2 := rfl
  rw [show Op.equal t vx vy = Op.equalIn (9998 + 2) t vx vy from rfl]
  generalize hk : ekOf E.P op t x y = k at h
  unfold eqlV at h
  split at h
  · have := vrep_bool hx; have := vrep_bool hy; subst vx; subst vy
    cases h
    refine ⟨eqGuard_plain (by simp) (by simp), eqlIn_bool (ek_bool hk) _ _ _, rfl, rfl⟩
  case _ g h' | _ g h' =>
    obtain ⟨ms, hms⟩ := ek_iface (by first | exact .inl hk | exact .inr hk)
    obtain ⟨p, hp, rfl⟩ := vrep_er hx
    obtain ⟨q, hq, rfl⟩ := vrep_er hy
    obtain ⟨el, i, e1, e2, e3⟩ := hE.ptr ⟨_, _, hp⟩
    obtain ⟨i', e4, e5⟩ := hE.cmp ⟨_, _, hp⟩
    refine ⟨eqGuard_plain (by simp [Env.errV]) (by simp [Env.errV]), ?_, rfl, rfl⟩
    cases h
    by_cases hpq : p = q
    · subst hpq
      have := G.inj _ _ _ hp hq
      subst this
      rw [Nat.beq_refl]
      exact run_equalIn_iface_ptr_same w 9998 _ hms e1 e4 e5 e2
    · have : Nat.beq g h' = false := by
        rw [← Bool.not_eq_true, Nat.beq_eq]
        rintro rfl
        rw [hp] at hq; exact hpq (Option.some.inj hq)
      rw [this]
      obtain ⟨c1, t1, o1, _⟩ := G.obj _ _ hp
      obtain ⟨c2, t2, o2, _⟩ := G.obj _ _ hq
      exact run_equalIn_iface_ptr_other w 9998 hms e1 e4 e5 e2 e3 (fun e => hpq (by injection e with e1 e2; exact Prod.ext e1 e2)) o1 o2
  case _ | _ =>
    obtain ⟨ms, hms⟩ := ek_iface (by first | exact .inl hk | exact .inr hk)
    obtain ⟨p, hp, rfl⟩ := vrep_er hx
    have := vrep_nl hy; subst this
    cases h
    exact ⟨eqGuard_plain (by simp [Env.errV]) (by simp [Env.errV]), eqlIn_iface_r hms _ _ _, rfl, rfl⟩
  case _ | _ =>
    obtain ⟨ms, hms⟩ := ek_iface (by first | exact .inl hk | exact .inr hk)
    obtain ⟨p, hp, rfl⟩ := vrep_er hy
    have := vrep_nl hx; subst this
    cases h
    exact ⟨eqGuard_plain (by simp [Env.errV]) (by simp [Env.errV]), eqlIn_iface_l hms _ _ _, rfl, rfl⟩
  · obtain ⟨ms, hms⟩ := ek_iface (.inr hk)
    have := vrep_nl hx; subst this
    have := vrep_nl hy; subst this
    cases h
    exact ⟨eqGuard_const (ek_ifaceC hk), eqlIn_iface_nil hms _, rfl, rfl⟩
  · obtain ⟨e, he⟩ := ek_ptr hk
    have := vrep_np hy; subst this
    obtain ⟨a, rfl, rfl⟩ := isNil_sound hx h
    exact ⟨eqGuard_plain (by simp) (by simp), eqlIn_ptr_nil_r he _ _, rfl, rfl⟩
  · obtain ⟨e, he⟩ := ek_ptr hk
    have := vrep_np hx; subst this
    obtain ⟨a, rfl, rfl⟩ := isNil_sound hy h
    exact ⟨eqGuard_plain (by simp) (by simp), eqlIn_ptr_nil_l he _ _, rfl, rfl⟩
  · obtain ⟨⟨e, he⟩, hy0⟩ := ek_slc hk
    have := hcy _ hy0; subst this
    cases h
    obtain ⟨base, c, rfl, h0⟩ : ∃ base c, vx = .slice (some base) _ c ∧ True := by
      cases hx with
      | one h1 => cases h1 with
        | flat h2 => cases h2 with
          | sl cells n base c cs hn h0 h1 =>
            rcases h0 with h0 | ⟨blk, off, rfl, _⟩
            · cases h0
            · exact ⟨_, c, rfl, trivial⟩
    exact ⟨eqGuard_plain (by simp) (by simp), eqlIn_slc he _ _ _ _, rfl, rfl⟩
  · obtain ⟨fs, h1, h2, h3, h4, h5⟩ := ek_ints hk
    rename_i n xs ys
    cases hb : (Nat.beq xs.length n && Nat.beq ys.length n)
    · simp [hb] at h
    · simp only [hb, cond_true] at h
      simp only [Bool.and_eq_true, Nat.beq_eq] at hb
      obtain ⟨l1, rfl, l2, l3⟩ := vrep_ag hx
      obtain ⟨l4, rfl, l5, l6⟩ := vrep_ag hy
      exact ⟨eqGuard_agg h5, eqlIn_ints h1 h3 h4 9998 (by omega) (by omega) l2 l5 l3 l6 h, rfl, rfl⟩
  · cases h

end
end Zab
